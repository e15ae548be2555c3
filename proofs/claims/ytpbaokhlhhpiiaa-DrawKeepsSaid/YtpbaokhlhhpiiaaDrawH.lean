/- The statements' example of draw; the walks of DrawHash and DrawBelow. -/
import Derived.Test.YtpbaokhlhhpiiaaDrawG
import Derived.Test.YtpbaokhlhhpiiaaTxts
namespace Go.Proofs.Ytpbaokhlhhpiiaa
open Go.ChangeShapes Go.WideShapes Go.ChangeAt Go.RowKit
set_option linter.unusedVariables false
set_option linter.unusedSimpArgs false

theorem strs_blk {W : World} {b : Nat} {t : TypeId} {fr : Nat × Nat} (l : List ByteArray) (h : W.heap[b]? = some (.cells (l.map Value.string).toArray t fr)) (hs : ∀ s ∈ l, s.size ≤ maxLen) : StrsAt W (b + 1) (some ⟨b, 0, none⟩) l := by
  refine ⟨⟨by simp, fun _ => ⟨b, 0, rfl, Nat.lt_succ_self _, fun j u hu => ?_⟩⟩, hs⟩
  simp only [World.cell?, h, Nat.zero_add]
  simpa using hu

def tA : ByteArray := ⟨#[97]⟩
def tB : ByteArray := ⟨#[98]⟩
def tC : ByteArray := ⟨#[99]⟩
def tX : ByteArray := ⟨#[120]⟩
theorem once_abc : onceV [tA, tB, tC] = [tA, tB, tC] := by decide +kernel
theorem mix_lives : mixV 7 [tA, tB, tC] [tX] 2 = [tA, tX, tB] := by
  have e1 : sampleAll 7 [tX] = [tX] := by
    have : onceV [tX] = [tX] := by decide +kernel
    unfold sampleAll
    rw [this, List.mergeSort_singleton]
  have e2 : freshV 7 [tA, tB, tC] [tX] = [tX] := by
    unfold freshV
    rw [e1, once_abc]
    decide +kernel
  unfold mixV
  rw [e2, once_abc]
  decide +kernel

set_option maxRecDepth 20000 in
set_option maxHeartbeats 1000000 in
theorem lives_any (w : World) : Calls Try.prog 9 #[] w fun e w' => e = .returned (.bool true) ∧ Below w.heap.size w w' := by
  have hb : belowV 9223372036854775808 10 = 5 := by decide +kernel
  have HB := Lib.hid hb
  clear hb
  go_enter Try.func9, Try.ntmps9
  go_wp2_with fail
  refine (below_any 9223372036854775808 10 _ (by omega) (by omega) (by omega)).mono ?_
  rintro e w1 ⟨rfl, rfl⟩
  rw [HB.out]
  go_wp2_with fail
  have hb1 : Below w.heap.size w (w.alloc (.cells #[.string tA, .string tB, .string tC] 9)) := (Below.refl _ _).alloc (Nat.le_refl _) _
  have hb2 : Below w.heap.size w ((w.alloc (.cells #[.string tA, .string tB, .string tC] 9)).alloc (.cells #[.string tX] 9)) := hb1.alloc (by simp) _
  have s1 : StrsAt ((w.alloc (.cells #[.string tA, .string tB, .string tC] 9)).alloc (.cells #[.string tX] 9)) (w.heap.size + 2) (some ⟨w.heap.size, 0, none⟩) [tA, tB, tC] :=
    (strs_blk [tA, tB, tC] (t := 9) (fr := (0, 0)) ((Below.heap_alloc _ _ _ (by simp)).trans (heap_alloc_new w _)) (by decide +kernel)).more (by omega)
  have s2 : StrsAt ((w.alloc (.cells #[.string tA, .string tB, .string tC] 9)).alloc (.cells #[.string tX] 9)) (w.heap.size + 2) (some ⟨w.heap.size + 1, 0, none⟩) [tX] := by
    have := strs_blk [tX] (W := (w.alloc (.cells #[.string tA, .string tB, .string tC] 9)).alloc (.cells #[.string tX] 9)) (t := 9) (fr := (0, 0)) (b := w.heap.size + 1) (by have := heap_alloc_new (w.alloc (.cells #[.string tA, .string tB, .string tC] 9)) (.cells #[.string tX] 9); simpa using this) (by decide +kernel)
    exact this.more (by omega)
  refine (mix_any 7 2 (some ⟨w.heap.size, 0, none⟩) (some ⟨w.heap.size + 1, 0, none⟩) (w.heap.size + 2) 3 1 [tA, tB, tC] [tX] _ s1 s2 (by simp) (by simp) (by simp) (by omega)).mono ?_
  rw [mix_lives]
  rintro e w2 ⟨A2, c2, rfl, ho2, hb3⟩
  have hz2 := hb3.size
  simp at hz2
  have hb4 : Below w.heap.size w w2 := hb2.trans (hb3.mono (by simp; omega))
  clear hb1 hb2 s1 s2 hb3
  go_wp2_with fail
  have ho3 : StrsAt w2 w2.heap.size A2 [tA, tX, tB] := StrsAt.of_own (l := [tA, tX, tB]) ho2 (by decide +kernel)
  have hb5 : Below w2.heap.size w2 (w2.alloc (.cells #[.string tA, .string tX, .string tB] 9)) := (Below.refl _ _).alloc (Nat.le_refl _) _
  refine (texts_any A2 (some ⟨w2.heap.size, 0, none⟩) w2.heap.size (w2.heap.size + 1) c2 3 [tA, tX, tB] [tA, tX, tB] _ (ho3.below hb5) (strs_blk [tA, tX, tB] (t := 9) (fr := (0, 0)) (heap_alloc_new w2 _) (by decide +kernel)) (by simp) (by simp) (by simp)).mono ?_
  rintro e w3 ⟨rfl, hg⟩
  have hfin : Below w.heap.size w w3 := (hb4.trans (hb5.mono (by omega))).trans (hg.below.mono (by simp; omega))
  have HT : Hid (decide ([tA, tX, tB] = [tA, tX, tB]) = true) := Lib.hid (by simp)
  rw [HT.out]
  clear hg hb5 ho3 ho2 hb4
  go_wp2
  go_ret
  exact ⟨rfl, hfin⟩

set_option maxHeartbeats 1000000 in
theorem drawHash_walk (seed : Int) (A : Option Addr) (c : Nat) (ws : List ByteArray) (n : Int) (w : World) (hr : StrsAt w w.heap.size A ws) (hl : (ws.length : Int) ≤ 9223372036854775807) (hn : n ≤ 9223372036854775807) :
    Calls Try.prog 3 #[.int .u64 seed, .slice A ws.length c, .int .i64 n] w fun e w' => e = .returned (.bool true) ∧ Below w.heap.size w w' := by
  by_cases hb : bigB ws 20 = true
  · have HB := Lib.hid hb
    clear hb
    go_enter Try.func3, Try.ntmps3
    go_wp2_with fail
    refine (lives_any _).mono ?_
    rintro e w1 ⟨rfl, hb1⟩
    go_wp2_with fail
    refine (big_any A w.heap.size c ws 20 _ (hr.below hb1) hl).mono ?_
    rintro e w2 ⟨rfl, rfl⟩
    rw [HB.out]
    go_wp2
    go_ret
    exact ⟨rfl, hb1⟩
  · have hb' : bigB ws 20 = false := by simpa using hb
    have HB := Lib.hid hb'
    have hno := bigB_no hb'
    have hbd := hashV_bd seed ws
    have hbv := belowV_bd (hashV seed ws) n hbd.1 hbd.2
    have q1 := fun W (h : StrsAt W w.heap.size A ws) => hash_any seed A w.heap.size c ws W h hl
    have q2 := fun W (h : StrsAt W w.heap.size A ws) => rhash_any seed A w.heap.size c ws W h hl (fun s hs => by have := hno.2 s hs; omega)
    generalize hashV seed ws = H at *
    have q3 := fun W => below_any H n W hbd.1 hbd.2 hn
    have q4 := fun W => rbelow_any H n W hbd.1 hbd.2 hn
    generalize belowV H n = V at *
    obtain ⟨v0, v1, v2⟩ := hbv
    have Q1 := Lib.hid q1
    have Q2 := Lib.hid q2
    have Q3 := Lib.hid q3
    have Q4 := Lib.hid q4
    clear q1 q2 q3 q4 hb hb' hno hbd
    by_cases hn1 : n < 1
    · obtain rfl := v2 hn1
      clear v1 v2
      go_enter Try.func3, Try.ntmps3
      go_wp2_with fail
      refine (lives_any _).mono ?_
      rintro e w1 ⟨rfl, hb1⟩
      go_wp2_with fail
      refine (big_any A w.heap.size c ws 20 _ (hr.below hb1) hl).mono ?_
      rintro e w2 ⟨rfl, rfl⟩
      rw [HB.out]
      go_wp2_with fail
      refine (Q1.out _ (hr.below hb1)).mono ?_
      rintro e w2 ⟨rfl, rfl⟩
      go_wp2_with fail
      refine (Q3.out _).mono ?_
      rintro e w2 ⟨rfl, rfl⟩
      go_wp2_with fail
      refine (Q2.out _ (hr.below hb1)).mono ?_
      rintro e w2 ⟨rfl, rfl⟩
      go_wp2_with fail
      refine (Q4.out _).mono ?_
      rintro e w2 ⟨rfl, rfl⟩
      go_wp2
      go_ret
      exact ⟨rfl, hb1⟩
    · have v1' := v1 (by omega)
      clear v1 v2
      go_enter Try.func3, Try.ntmps3
      go_wp2_with fail
      refine (lives_any _).mono ?_
      rintro e w1 ⟨rfl, hb1⟩
      go_wp2_with fail
      refine (big_any A w.heap.size c ws 20 _ (hr.below hb1) hl).mono ?_
      rintro e w2 ⟨rfl, rfl⟩
      rw [HB.out]
      go_wp2_with fail
      refine (Q1.out _ (hr.below hb1)).mono ?_
      rintro e w2 ⟨rfl, rfl⟩
      go_wp2_with fail
      refine (Q3.out _).mono ?_
      rintro e w2 ⟨rfl, rfl⟩
      go_wp2_with fail
      refine (Q2.out _ (hr.below hb1)).mono ?_
      rintro e w2 ⟨rfl, rfl⟩
      go_wp2_with fail
      refine (Q4.out _).mono ?_
      rintro e w2 ⟨rfl, rfl⟩
      go_wp2
      go_ret
      exact ⟨rfl, hb1⟩
end Go.Proofs.Ytpbaokhlhhpiiaa
