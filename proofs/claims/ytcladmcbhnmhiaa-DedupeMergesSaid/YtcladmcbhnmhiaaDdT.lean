/- Contracts of slices.Grow and slices.Concat at rows of ranges, of the comparison that union sorts by, and of the sort. -/
import Derived.Test.YtcladmcbhnmhiaaDdS
import Derived.Test.YtcladmcbhnmhiaaKitSp
namespace Go.Proofs.Ytcladmcbhnmhiaa
open Go.ChangeShapes Go.WideShapes Go.ChangeAt Go.RowKit Go.Shelf Go.Lib Go.Sort Go.Proofs
set_option linter.unusedVariables false
set_option linter.unusedSimpArgs false

def GrowNew (w : World) (e : Ending) (w' : World) : Prop := ∃ A c, e = .returned (.slice A 0 c) ∧ (A = none → c = 0) ∧ w'.ownsRow w.heap.size 42 2 (.slice A 0 c) 0 [] ∧ Below w.heap.size w w'
set_option maxHeartbeats 4000000 in
set_option maxRecDepth 100000 in
theorem grow_any (n : Nat) (w : World) (hn : n < 2000000) : Calls Try.prog 59 #[.slice none 0 0, .int .i64 n] w (GrowNew w) := by
  rcases Nat.eq_zero_or_pos n with rfl | hp
  · have hfin : GrowNew w (.returned (.slice none 0 0)) w := ⟨none, 0, rfl, fun _ => rfl, World.ownsRow_nil w _ _ _, Below.refl _ _⟩
    go_enter Try.func59, Try.ntmps59
    go_wp2_with fail
    go_ret
    exact hfin
  · obtain ⟨i0, hi0, hz0, hzb, hzc⟩ := info_parts i_rg
    have hrun := fun ty => Lib.run_append_nil_zeros (P := Try.prog) w 39 3 ty 42 i0 _ .i64 .i64 u_rgs Try.underlying3 hi0 hz0 n hp (by omega) (by omega) (by rw [hzc]; omega)
    obtain ⟨G, hG⟩ : ∃ G, G = grownCap w n 0 42 := ⟨_, rfl⟩
    have hGn : n ≤ G := by rw [hG]; exact grownCap_ge w _ _ _
    have hGm : G ≤ maxLen := by rw [hG]; exact grownCap_le_maxLen w n 0 42 (by unfold maxLen; omega)
    rw [← hG] at hrun
    obtain ⟨row, hrow⟩ : ∃ row : List Value, row = (Builtin.zeroCells (Value.agg #[.int .i64 0, .int .i64 0]).cells n ++ Builtin.zeroCells (Value.agg #[.int .i64 0, .int .i64 0]).cells (G - n)).toList := ⟨_, rfl⟩
    have hrl : row.length = G * 2 := by
      rw [hrow]
      simp only [Array.toList_append, List.length_append, Array.length_toList, size_zeroCells]
      show n * 2 + (G - n) * 2 = G * 2
      omega
    have hra : Builtin.zeroCells (Value.agg #[.int .i64 0, .int .i64 0]).cells n ++ Builtin.zeroCells (Value.agg #[.int .i64 0, .int .i64 0]).cells (G - n) = row.toArray := by rw [hrow]
    rw [hra] at hrun
    obtain ⟨W1, hW1⟩ : ∃ W1, W1 = w.drew.alloc (.cells row.toArray 42) := ⟨_, rfl⟩
    rw [← hW1] at hrun
    have hb : Below w.heap.size w W1 := by rw [hW1]; exact (Below.refl _ w).drew.alloc (Nat.le_refl _) _
    have hblk : W1.heap[w.heap.size]? = some (.cells row.toArray 42 (0, 0)) := by rw [hW1]; exact heap_alloc_new w.drew _
    have hfin : GrowNew w (.returned (.slice (some ⟨w.heap.size, 0, none⟩) 0 G)) W1 :=
      ⟨_, G, rfl, (fun h => absurd h (by simp)), own_of_block (xs := []) hblk (Nat.le_refl _) (Nat.zero_le _) hGm hrl (by simp), hb⟩
    have HF := Lib.hid hfin
    clear hfin hb hblk hW1 hra hrow hrl hG hi0 hz0 hzb hzc
    have hp2 : (0 : Int) < (n : Int) := by omega
    have hG2 : (0 : Int) ≤ (G : Int) := by omega
    go_enter Try.func59, Try.ntmps59
    go_wp2_with (at_builtin; refine Lib.wpList_append_run _ rfl _ _ _ _ rfl _ _ rfl rfl _ _ (hrun _) ?_)
    go_ret
    exact HF.out

/-- A row to be joined: where it lies, its room, what it holds. -/
abbrev PartD := Option Addr × Nat × List Rg
def partV (p : PartD) : Value := .slice p.1 p.2.2.length p.2.1
def flatP (P : List PartD) : List Rg := P.flatMap (·.2.2)
theorem flatP_snoc (P : List PartD) (p : PartD) : flatP (P ++ [p]) = flatP P ++ p.2.2 := by unfold flatP; simp
def PartsAt (w : World) (B : Nat) (PA : Option Addr) (P : List PartD) : Prop := Reads w B 1 PA P.length (P.map partV) ∧ ∀ p ∈ P, Reads w B 2 p.1 p.2.2.length (rgsCells p.2.2) ∧ (p.1 = none → p.2.1 = 0)
theorem PartsAt.below {w w' : World} {B : Nat} {PA : Option Addr} {P : List PartD} (h : PartsAt w B PA P) (hb : Below B w w') : PartsAt w' B PA P := ⟨h.1.below hb, fun p hp => ⟨(h.2 p hp).1.below hb, (h.2 p hp).2⟩⟩
def ConcatNew (w : World) (P : List PartD) (e : Ending) (w' : World) : Prop := ∃ A c, e = .returned (.slice A (flatP P).length c) ∧ w'.ownsRow w.heap.size 42 2 (.slice A (flatP P).length c) (flatP P).length (rgsCells (flatP P)) ∧ Below w.heap.size w w'
set_option maxHeartbeats 8000000 in
set_option maxRecDepth 100000 in
theorem concat_any (PA : Option Addr) (pc : Nat) (P : List PartD) (w : World) (h : PartsAt w w.heap.size PA P) (hl : (flatP P).length < 1900000) (hP : P.length < 1000) :
    Calls Try.prog 52 #[.slice PA P.length pc] w (ConcatNew w P) := by
  have hle : ∀ k, (flatP (P.take k)).length ≤ (flatP P).length := fun k => by
    have e : flatP P = flatP (P.take k) ++ flatP (P.drop k) := by
      conv => lhs; rw [← List.take_append_drop k P]
      unfold flatP
      rw [List.flatMap_append]
    rw [e, List.length_append]
    omega
  have HL := Lib.hid h
  have HLE := Lib.hid hle
  clear h hle
  go_enter Try.func52, Try.ntmps52
  go_wp2_with fail
  go_loopg [3, 11] P.length (fun rest s3 s11 wr => ∃ k : Nat, s11 = .int .i64 k ∧ s3 = .int .i64 ((flatP (P.take k)).length : Nat) ∧ Hid (k + rest = P.length) ∧ (k : Int) ≤ 1000 ∧ w = wr)
  case atStart => exact ⟨0, rfl, rfl, Lib.hid (by simp), by omega, rfl⟩
  case round =>
    obtain ⟨k, rfl, rfl, HK, hk0, rfl⟩ := hrel
    by_cases hk : (k : Int) < (P.length : Int)
    · have hkl : k < P.length := by omega
      obtain ⟨b, o, rfl, hb, y1⟩ := HL.out.1.one hkl
      have hs := flatP_snoc (P.take k) P[k]
      rw [← List.take_succ_eq_append_getElem hkl] at hs
      have h1 := HLE.out (k + 1)
      rw [hs, List.length_append] at h1
      have HS := Lib.hid hs
      clear hs
      unfold partV at y1
      generalize P[k] = p at *
      obtain ⟨pa, pcp, pr⟩ := p
      simp only at y1 h1 HS
      generalize (flatP (List.take k P)) = X at *
      have hw1 : wrap64 ((X.length : Int) + (pr.length : Int)) = (X.length : Int) + (pr.length : Int) := by unfold wrap64; omega
      have hn0 : ¬ ((X.length : Int) + (pr.length : Int) < 0) := by omega
      go_wp2_with fail
      go_roundg (gk - 1)
      case measure => have := HK.out; omega
      case rel => exact ⟨k + 1, by go_num, by rw [HS.out, List.length_append]; push_cast; rfl, Lib.hid (by have := HK.out; omega), by omega, rfl⟩
    · have hke : k = P.length := by have := HK.out; omega
      have hte : P.take k = P := by rw [hke, List.take_length]
      rw [hte]
      clear hte
      have hg := grow_any (flatP P).length w (by omega)
      have HG := Lib.hid hg
      clear hg
      go_wp2_with fail
      refine Calls.mono HG.out ?_
      rintro e w1 ⟨A1, c1, rfl, hnc, hown1, hb1⟩
      have HO1 := Lib.hid hown1
      have HB1 := Lib.hid hb1
      clear hown1 hb1 HG
      go_wp2_with fail
      go_loopg [6, 27] P.length (fun rest s6 s27 wr => ∃ (k : Nat) (A3 : Option Addr) (c3 : Nat), s27 = .int .i64 k ∧ s6 = .slice A3 (flatP (P.take k)).length c3 ∧ Hid (k + rest = P.length) ∧ (k : Int) ≤ 1000 ∧ Hid (wr.ownsRow w.heap.size 42 2 (.slice A3 (flatP (P.take k)).length c3) (flatP (P.take k)).length (rgsCells (flatP (P.take k)))) ∧ Hid (Below w.heap.size w wr))
      case atStart => exact ⟨0, A1, c1, rfl, rfl, Lib.hid (by simp), by omega, HO1, HB1⟩
      case round =>
        obtain ⟨j, A3, c3, rfl, rfl, HJ, hj0, HO, HB⟩ := hrel
        by_cases hj : (j : Int) < (P.length : Int)
        · have hjl : j < P.length := by omega
          have hL := HL.out.below HB.out
          obtain ⟨b, o, rfl, hb, y1⟩ := hL.1.one hjl
          obtain ⟨hr, hn⟩ := hL.2 _ (List.getElem_mem hjl)
          have hs := flatP_snoc (P.take j) P[j]
          rw [← List.take_succ_eq_append_getElem hjl] at hs
          have h1 := HLE.out (j + 1)
          rw [hs, List.length_append] at h1
          have HS := Lib.hid hs
          clear hs hL
          unfold partV at y1
          generalize P[j] = p at *
          obtain ⟨pa, pcp, pr⟩ := p
          simp only at y1 h1 HS hr hn
          have HR := Lib.hid (And.intro hr hn)
          clear hr hn
          generalize (flatP (List.take j P)) = X at *
          have hsz := HB.out.size
          have HSZ := Lib.hid hsz
          clear hsz
          go_wp2_with (at_builtin; refine wpList_append_to wr (by rfl) (.tmp 31) (.tmp 32) _ rfl w.heap.size 42 (.agg #[.int .i64 0, .int .i64 0]) 2 16 u_rgs i_rg rfl (by omega) A3 X.length c3 _ rfl HO.out _ w.heap.size _ _ (rgsCells pr) rfl HR.out.1 HR.out.2 (rgsCells_one pr) (X.length + pr.length) rfl (by unfold maxLen; omega) (by omega) HSZ.out ?_; intro A7 c7 w7 hown7 hg7 hb7)
          have HO7 := Lib.hid hown7
          have HB7 := Lib.hid (HB.out.trans hb7)
          clear hown7 hg7 hb7
          go_wp2_with fail
          go_roundg (gk - 1)
          case measure => have := HJ.out; omega
          case rel => exact ⟨j + 1, A7, c7, by go_num, by rw [HS.out, List.length_append], Lib.hid (by have := HJ.out; omega), by omega, Lib.hid (by rw [HS.out, List.length_append, rgsCells_append]; exact HO7.out), HB7⟩
        · have hje : j = P.length := by have := HJ.out; omega
          have hte : P.take j = P := by rw [hje, List.take_length]
          rw [hte] at HO ⊢
          go_wp2_with fail
          go_ret
          exact ⟨A3, c3, rfl, HO.out, HB.out⟩

/-- Ranges that the comparison bears. -/
def OkRg := { r : Rg // 0 < r.1 ∧ r.1 ≤ 1099511627777 }
instance : Inhabited OkRg := ⟨⟨(1, 2), by decide, by decide⟩⟩
def okRgEnc (x : OkRg) : List Value := rgCells x.1
def okRgCmp (x y : OkRg) : Int := x.1.1 - y.1.1
theorem okRg_map (l : List Rg) (h : ∀ r ∈ l, 0 < r.1 ∧ r.1 ≤ 1099511627777) : ∃ m : List OkRg, m.map (·.1) = l := by
  induction l with
  | nil => exact ⟨[], rfl⟩
  | cons a l ih =>
    obtain ⟨m, rfl⟩ := ih (fun s hs => h s (by simp [hs]))
    exact ⟨⟨a, h a (by simp)⟩ :: m, rfl⟩
theorem flat_okRg (m : List OkRg) : m.flatMap okRgEnc = rgsCells (m.map (·.1)) := by
  unfold rgsCells
  rw [List.flatMap_map]
  rfl
theorem okRg_swo : SWO (ltOf okRgCmp) where
  irrefl := fun x => by unfold ltOf okRgCmp; simp
  trans := fun x y z h1 h2 => by unfold ltOf okRgCmp at *; simp at *; omega
  ntrans := fun x y z h1 h2 => by unfold ltOf okRgCmp at *; simp at *; omega
theorem enters_ucmp : ∀ args w, (callFunc 54 args).run Try.prog w = .ok (.enter 54 args) w := by
  intro args w; kernel_rfl
set_option maxHeartbeats 4000000 in
set_option maxRecDepth 100000 in
theorem ucmp_any (x y : OkRg) (w : World) : Calls Try.prog 54 #[.agg (okRgEnc x).toArray, .agg (okRgEnc y).toArray] w fun e w' => e = .returned (.int .i64 (okRgCmp x y)) ∧ Grew w w' := by
  obtain ⟨⟨f, t⟩, h1, h2⟩ := x
  obtain ⟨⟨f', t'⟩, h3, h4⟩ := y
  simp only at h1 h2 h3 h4
  unfold okRgCmp okRgEnc rgCells
  simp only
  have hw1 : wrap64 (f - f') = f - f' := by unfold wrap64; omega
  have hG : Grew w ((w.alloc (.cells #[.int .i64 f, .int .i64 t] 42)).alloc (.cells #[.int .i64 f', .int .i64 t'] 42)) := ((Grew.refl w).alloc _).alloc _
  have HG := Lib.hid hG
  clear hG
  go_enter Try.func54, Try.ntmps54
  go_wp2
  go_ret
  exact ⟨rfl, HG.out⟩
/-- The sort: a permutation that rises. -/
theorem usort_any (base : Nat) (A : Option Addr) (cap : Nat) (R : List Rg) (w : World) (hok : ∀ r ∈ R, 0 < r.1 ∧ r.1 ≤ 1099511627777) (hown : w.ownsRow base 42 2 (.slice A R.length cap) R.length (rgsCells R)) (hsz : R.length < 2000000) :
    Calls Try.prog 53 #[.slice A R.length cap, .func (.func 54) #[] #[]] w fun r w' => r = .returned (.tuple #[]) ∧ ∃ ms : List Rg, ms.Perm R ∧ ms.Pairwise (fun x y => x.1 ≤ y.1) ∧
      w'.ownsRow base 42 2 (.slice A R.length cap) R.length (rgsCells ms) ∧ Keeps (fun j => (Value.slice A R.length cap).ownBlock = some j) w w' := by
  obtain ⟨L, hL⟩ := okRg_map R hok
  have hlen : L.length = R.length := by rw [← hL]; simp
  have q := sortKp (P := Try.prog) Try.sortR 2 (fun w => by kernel_rfl) (fun w => by kernel_rfl) okRgEnc (fun _ => rfl) (fun x v hv => by
      simp [okRgEnc, rgCells] at hv
      rcases hv with rfl | rfl <;> rfl) okRgCmp okRg_swo 54 #[] enters_ucmp base 42 A R.length cap L hlen w (by rw [flat_okRg, hL]; exact hown)
      (fun W x y _ => ucmp_any x y W) (by omega)
  refine Calls.mono q ?_
  rintro r w' ⟨rfl, ms, hp, hs, ho, hk⟩
  refine ⟨rfl, ms.map (·.1), by rw [← hL]; exact hp.map _, ?_, by rw [← flat_okRg]; exact ho, hk⟩
  rw [List.pairwise_map]
  refine hs.imp (fun {x y} h => ?_)
  unfold ltOf okRgCmp at h
  simp at h
  exact h
end Go.Proofs.Ytcladmcbhnmhiaa
