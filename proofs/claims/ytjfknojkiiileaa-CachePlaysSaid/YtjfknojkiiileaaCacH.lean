/- The statements' helper lives; what stands in memory while CacheFresh goes through its deeds. -/
import Derived.Test.YtjfknojkiiileaaCacG
namespace Go.Proofs.Ytjfknojkiiileaa
open Go.ChangeShapes Go.WideShapes Go.ChangeAt Go.RowKit
set_option linter.unusedVariables false
set_option linter.unusedSimpArgs false

abbrev tA : ByteArray := ⟨#[97]⟩
abbrev tB : ByteArray := ⟨#[98]⟩
abbrev tC : ByteArray := ⟨#[99]⟩
abbrev t1 : ByteArray := ⟨#[49]⟩
abbrev t2 : ByteArray := ⟨#[50]⟩
abbrev t3 : ByteArray := ⟨#[51]⟩
theorem ab : ¬ tA = tB := by decide
theorem ac : ¬ tA = tC := by decide
theorem bc : ¬ tB = tC := by decide

theorem lv1 {V : CView} (h : COut 2 (mput [] tA ⟨t1, [], 0 + 1⟩) V) : V = [(tA, ⟨t1, [], 1⟩)] := by
  have e : mput ([] : CView) tA ⟨t1, [], 0 + 1⟩ = [(tA, ⟨t1, [], 1⟩)] := by simp [mput, mget]
  rw [e] at h
  rcases h with ⟨_, rfl⟩ | ⟨h, _⟩
  · rfl
  · simp at h
theorem lv2 {V : CView} (h : COut 2 (mput [(tA, ⟨t1, [], 1⟩)] tB ⟨t2, [], 1 + 1⟩) V) : V = [(tA, ⟨t1, [], 1⟩), (tB, ⟨t2, [], 2⟩)] := by
  have e : mput ([(tA, ⟨t1, [], 1⟩)] : CView) tB ⟨t2, [], 1 + 1⟩ = [(tA, ⟨t1, [], 1⟩), (tB, ⟨t2, [], 2⟩)] := by
    have : ¬ tB = tA := fun e => ab e.symm
    simp [mput, mget, this]
  rw [e] at h
  rcases h with ⟨_, rfl⟩ | ⟨h, _⟩
  · rfl
  · simp at h
theorem lv3 : useV [(tA, ⟨t1, [], 1⟩), (tB, ⟨t2, [], 2⟩)] tA (2 + 1) = [(tA, ⟨t1, [], 3⟩), (tB, ⟨t2, [], 2⟩)] := by
  have : ¬ tB = tA := fun e => ab e.symm
  simp [useV, this]
theorem lv4 {V : CView} (h : COut 2 (mput [(tA, ⟨t1, [], 3⟩), (tB, ⟨t2, [], 2⟩)] tC ⟨t3, [], 3 + 1⟩) V) : V = [(tA, ⟨t1, [], 3⟩), (tC, ⟨t3, [], 4⟩)] := by
  have n1 : ¬ tB = tA := fun e => ab e.symm
  have n2 : ¬ tC = tA := fun e => ac e.symm
  have n3 : ¬ tC = tB := fun e => bc e.symm
  have e : mput ([(tA, ⟨t1, [], 3⟩), (tB, ⟨t2, [], 2⟩)] : CView) tC ⟨t3, [], 3 + 1⟩ = [(tA, ⟨t1, [], 3⟩), (tB, ⟨t2, [], 2⟩), (tC, ⟨t3, [], 4⟩)] := by
    simp [mput, mget, n2, n3]
  rw [e] at h
  rcases h with ⟨h, _⟩ | ⟨_, o, q, ho, hmin, rfl⟩
  · simp at h
  · simp only [List.mem_cons, List.not_mem_nil, or_false, Prod.mk.injEq] at ho
    have hm := hmin (tB, ⟨t2, [], 2⟩) (by simp)
    rcases ho with ⟨rfl, rfl⟩ | ⟨rfl, rfl⟩ | ⟨rfl, rfl⟩
    · simp at hm
    · simp [mdel, n1, ab, n3]
    · simp at hm

set_option maxRecDepth 20000 in
set_option maxHeartbeats 2000000 in
theorem clives_any (w : World) : Calls Try.prog 6 #[] w fun e w' => e = .returned (.bool true) ∧ Below w.heap.size w w' := by
  have n1 : (ByteArray.mk #[97]).size ≤ maxLen := by decide
  have n2 : (ByteArray.mk #[98]).size ≤ maxLen := by decide
  have n3 : (ByteArray.mk #[99]).size ≤ maxLen := by decide
  have m1 : (ByteArray.mk #[49]).size ≤ maxLen := by decide
  have m2 : (ByteArray.mk #[50]).size ≤ maxLen := by decide
  have m3 : (ByteArray.mk #[51]).size ≤ maxLen := by decide
  have hs : sizeOf' 2 = 2 := by decide
  have HS := Lib.hid hs
  clear hs
  go_enter Try.func6, Try.ntmps6
  go_wp2_with fail
  refine (cnew_o 2 _).mono ?_
  rintro e w1 ⟨cb, F1, rfl, hc1, hF1, hb1⟩
  rw [HS.out] at hc1
  have z1 := hb1.size
  go_wp2_with fail
  refine (cput_o hc1 (by omega) (by omega) tA t1 n1 m1 none 0 [] (StrsAt.nil _ _ _) (by simp) (by simp) (by omega) (by omega)).mono ?_
  rintro e w2 ⟨rfl, V2, F2, hC2, hc2, hu2⟩
  obtain rfl := lv1 hC2
  have hF2 := hu2.base z1 hF1
  have hb2 := hu2.belowB hb1 (Nat.le_refl _) hF1
  have z2 := hb2.size
  clear hC2 hc1 hu2
  go_wp2_with fail
  refine (cput_o hc2 (by omega) (by omega) tB t2 n2 m2 none 0 [] (StrsAt.nil _ _ _) (by simp) (by simp) (by omega) (by omega)).mono ?_
  rintro e w3 ⟨rfl, V3, F3, hC3, hc3, hu3⟩
  obtain rfl := lv2 hC3
  have hF3 := hu3.base z2 hF2
  have hb3 := hu3.belowB hb2 (Nat.le_refl _) hF2
  have z3 := hb3.size
  clear hC3 hc2 hu3
  go_wp2_with fail
  refine (cget_o hc3 (by omega) (by omega) tA n1).mono ?_
  intro e w4 hp
  unfold CGetO at hp
  rw [show mget [(tA, (⟨t1, [], 1⟩ : PEnt)), (tB, ⟨t2, [], 2⟩)] tA = some ⟨t1, [], 1⟩ by simp [mget]] at hp
  obtain ⟨rfl, F4, hc4, hu4⟩ := hp
  have hF4 := hu4.base z3 hF3
  have hb4 := hu4.belowB hb3 (Nat.le_refl _) hF3
  have z4 := hb4.size
  have hc4' : CacO cb 2 3 [(tA, ⟨t1, [], 3⟩), (tB, ⟨t2, [], 2⟩)] w4 F4 := by have := hc4; rw [show (0 + 1 + 1 : Int) + 1 = 2 + 1 from rfl, lv3] at this; exact this
  clear hc4 hc3 hu4
  go_wp2_with fail
  refine (cput_o hc4' (by omega) (by omega) tC t3 n3 m3 none 0 [] (StrsAt.nil _ _ _) (by simp) (by simp) (by omega) (by omega)).mono ?_
  rintro e w5 ⟨rfl, V5, F5, hC5, hc5, hu5⟩
  obtain rfl := lv4 hC5
  have hF5 := hu5.base z4 hF4
  have hb5 := hu5.belowB hb4 (Nat.le_refl _) hF4
  have z5 := hb5.size
  clear hC5 hc4' hu5
  go_wp2_with fail
  refine (cget_o hc5 (by omega) (by omega) tB n2).mono ?_
  intro e w6 hp
  unfold CGetO at hp
  rw [show mget [(tA, (⟨t1, [], 3⟩ : PEnt)), (tC, ⟨t3, [], 4⟩)] tB = none by (have : ¬ tB = tA := fun e => ab e.symm); simp [mget, this, bc]] at hp
  obtain ⟨rfl, rfl⟩ := hp
  go_wp2_with (go_at_call 18; refine (clen_o hc5).mono ?_; rintro e w7 ⟨rfl, rfl⟩)
  go_ret
  exact ⟨rfl, hb5⟩
end Go.Proofs.Ytjfknojkiiileaa
