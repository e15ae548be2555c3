/- Contract of Unlike. -/
import Derived.Test.YtcladmcbhnmhiaaDeC
import Derived.Laws.StructEq
namespace Go.Proofs.Ytcladmcbhnmhiaa
open Go.ChangeShapes Go.WideShapes Go.ChangeAt Go.RowKit Go.Shelf Go.Lib Go.Sort Go.Proofs
set_option linter.unusedVariables false
set_option linter.unusedSimpArgs false

def sumLn (xs : List SrcD) : Nat := (xs.map (fun s => s.l.length)).sum
theorem sumLn_snoc (xs : List SrcD) (s : SrcD) : sumLn (xs ++ [s]) = sumLn xs + s.l.length := by unfold sumLn; simp
theorem sumLn_bd {xs : List SrcD} {M : Nat} (h : ∀ s ∈ xs, s.l.length ≤ M) : sumLn xs ≤ xs.length * M := by
  induction xs with
  | nil => simp [sumLn]
  | cons s xs ih =>
    have h1 := h s (by simp)
    have h2 := ih (fun t ht => h t (by simp [ht]))
    have e : sumLn (s :: xs) = s.l.length + sumLn xs := by unfold sumLn; simp
    rw [e, List.length_cons, Nat.succ_mul]
    omega
theorem RefOk.sumAll {xs : List SrcD} {F : RowsF} (h : RefOk (xs.map plS) F) (hF : ∀ k, RowOk 0 (F k)) : ∀ ys : List SrcD, (∀ s ∈ ys, s ∈ xs) → sumK F (ys.map (·.name)) = (sumLn ys : Int)
  | [], _ => rfl
  | s :: ys, hs => by
    have ih := h.sumAll hF ys (fun t ht => hs t (by simp [ht]))
    have e : sumLn (s :: ys) = s.l.length + sumLn ys := by unfold sumLn; simp
    have h1 := (h.ranges hF (List.mem_map.2 ⟨s, hs s (by simp), rfl⟩)).2.1
    simp only [plS] at h1
    rw [List.map_cons, sumK_cons, ih, e, h1]
    push_cast
    rfl
theorem eql_rgD (a b c d : Int) (w : World) : (binOp .eql 42 (.agg #[.int .i64 a, .int .i64 b]) (.agg #[.int .i64 c, .int .i64 d])).run Try.prog w = .ok (.bool (a == c && b == d)) w := by
  have hS : Try.prog.underlying 42 = some (.struct (Try.prog.fieldsOf 42)) := by kernel_rfl
  have hp : Try.prog.stoodInHeld 42 = false := by kernel_rfl
  have p0 := fun (v : Value) (xs : Array Value) (h : xs[0]? = some v) => run_part_plain (P := Try.prog) (w := w) (e := 3) (by kernel_rfl) h
  have p1 := fun (v : Value) (xs : Array Value) (h : xs[1]? = some v) => run_part_plain (P := Try.prog) (w := w) (e := 3) (by kernel_rfl) h
  have i := fun (d : Nat) (a b : Int) => run_equalIn_int (P := Try.prog) w d 3 .i64 .i64 a b Try.underlying3
  rw [run_eql_struct, run_equalIn_agg w 9999 _ _ _ hS hp]
  simp only [Program.fieldsOf, Try.underlying42, Op.eqFields]
  cases h1 : a == c <;> cases h2 : b == d <;> simp [Op.eqFields, p0, p1, i, h1, h2, Result.andThen]
theorem neq_rgD (a b c d : Int) (w : World) : (binOp .neq 42 (.agg #[.int .i64 a, .int .i64 b]) (.agg #[.int .i64 c, .int .i64 d])).run Try.prog w = .ok (.bool (!(a == c && b == d))) w := by
  have h := eql_rgD a b c d w
  rw [run_eql_struct] at h
  rw [run_neq_struct]
  cases hq : (Op.equalIn 10000 42 (.agg #[.int .i64 a, .int .i64 b]) (.agg #[.int .i64 c, .int .i64 d])).run Try.prog w with
  | ok v w1 =>
    rw [hq] at h
    simp [Result.andThen] at h ⊢
    obtain ⟨h1, h2⟩ := h
    subst h2
    simp [h1]
  | halt x w1 =>
    rw [hq] at h
    simp [Result.andThen] at h
theorem ByRow.below {w w' : World} {base : Nat} {A : Option Addr} {c : Nat} {l : List UInt8} (h : ByRow w base A c l) (hb : Below w.heap.size w w') : ByRow w' base A c l := (Keeps.ofBelow hb (fun _ => False)).own h (fun _ _ e => e)

set_option maxHeartbeats 16000000 in
set_option maxRecDepth 100000 in
theorem unlike_any (sb : Nat) (G : Nat → Prop) (F : RowsF) (A : Option Addr) (c : Nat) (xs : List SrcD) (l : List OpD) (w : World) (hS : SetObj w sb G F) (hx : SrcsAt w w.heap.size A xs) (hX : RefOk (xs.map plS) F) (hF : SetOk F l) (hl : l.length ≤ 1000) (hxl : xs.length ≤ 200) (hll : ∀ s ∈ xs, s.l.length ≤ 200) :
    Calls Try.prog 13 #[.pointer (some ⟨sb, 0, none⟩), .slice A xs.length c] w fun e w' => e = .returned (.string ⟨#[]⟩) ∧ Below w.heap.size w w' := by
  have hup : NamesUp xs := List.pairwise_map.1 hX.names
  have hks : KeysF F (xs.map (·.name)) := by
    have h := hX.keys hF.ok
    rw [List.map_map] at h
    exact h
  have hE := hF.enc hks hl
  have HS := Lib.hid hS
  have HXA := Lib.hid hx
  have HX := Lib.hid (And.intro hX hup)
  have HF := Lib.hid hF
  have HKS := Lib.hid hks
  have HE := Lib.hid hE
  have HLL := Lib.hid hll
  have hFl : ∀ k, (F k).length ≤ 1000 := fun k => by have := hF.len k; omega
  have HFL := Lib.hid hFl
  clear hS hx hX hF hks hE hll hup hFl
  have hxl2 : (xs.length : Int) ≤ 200 := by omega
  go_enter Try.func13, Try.ntmps13
  go_wp2_with fail
  refine Calls.mono (sources_any sb G F w HS.out (fun ks hk => by have := HF.out.keysLen hk; omega)) ?_
  rintro e w3 ⟨A3, c3, ks, rfl, hk3, ⟨hst, -⟩, hb3⟩
  obtain rfl : ks = xs.map (·.name) := hk3.unique HKS.out
  have HST := Lib.hid hst
  have HB3 := Lib.hid hb3
  have HS3 := Lib.hid ((SetObj.own sb F).below HS.out hb3)
  have HXA3 := Lib.hid ((HXA.out.below hb3).more hb3.size)
  clear hst hb3 hk3
  have hlm : (xs.map (·.name)).length = xs.length := List.length_map _
  rw [hlm]
  clear hlm
  have hne0 : ((xs.length : Int) != (xs.length : Int)) = false := by simp
  have hen := encode_any sb G F (xs.map (·.name)) w3.drew ((SetObj.own sb F).below HS3.out ((Below.refl _ _).drew)) HE.out
  obtain ⟨bs, hbs⟩ : ∃ bs, bs = encF F (xs.map (·.name)) := ⟨_, rfl⟩
  rw [← hbs] at hen
  have htx := fun W (hW : Below w3.heap.size w3 W) => text_any A c xs F W ((HXA3.out.below hW).more hW.size) HX.out.1 HF.out.ok HF.out.top (by omega) (fun s hs => by have := HLL.out s hs; omega) (fun s hs => HE.out.key _ (List.mem_map.2 ⟨s, hs, rfl⟩)) HE.out.all
  rw [← hbs] at htx
  have HEN := Lib.hid hen
  have HTX := Lib.hid htx
  clear hen htx hbs
  have hKe : Below w3.heap.size w3 w3.drew := (Below.refl _ _).drew
  obtain ⟨st, hst⟩ : ∃ st, st = bstr bs := ⟨_, rfl⟩
  have hse : (st.toList == st.toList) = true := by simp
  have hsn : (st.toList != st.toList) = false := by simp
  have HSTR := Lib.hid hst
  clear hst
  go_upto_region 2 with fail
  go_cut [26] (fun s26 wx => s26 = .bool false ∧ Below w3.heap.size w3 wx)
  case first =>
    refine heldStart 13 (S := fun W => True) (by kernel_rfl) ?_ (fun hHeld => ?_)
    · trivial
    refine heldTake 0 (v := ?_) (by simp only [List.getElem?_toArray, List.getElem?_cons_succ, List.getElem?_cons_zero]; rfl) (by kernel_rfl) (by intro _ _ _ h; exact h) (by rfl) (by assumption) ?_ ?_
    rotate_left
    · intro W hSw; (try dsimp only at hSw); go_simp; try with_reducible rfl
    simp only [Act.put, List.setIfInBounds_toArray, List.set_cons_zero, List.set_cons_succ]
    refine heldTake 1 (v := ?_) (by simp only [List.getElem?_toArray, List.getElem?_cons_succ, List.getElem?_cons_zero]; rfl) (by kernel_rfl) (by intro _ _ _ h; exact h) (by rfl) (by assumption) ?_ ?_
    rotate_left
    · intro W hSw; (try dsimp only at hSw); go_simp; try with_reducible rfl
    simp only [Act.put, List.setIfInBounds_toArray, List.set_cons_zero, List.set_cons_succ]
    refine heldTake 2 (v := ?_) (by simp only [List.getElem?_toArray, List.getElem?_cons_succ, List.getElem?_cons_zero]; rfl) (by kernel_rfl) (by intro _ _ _ h; exact h) (by rfl) (by assumption) ?_ ?_
    rotate_left
    · intro W hSw; (try dsimp only at hSw); go_simp; try with_reducible rfl
    simp only [Act.put, List.setIfInBounds_toArray, List.set_cons_zero, List.set_cons_succ]
    refine heldTake 3 (v := ?_) (by simp only [List.getElem?_toArray, List.getElem?_cons_succ, List.getElem?_cons_zero]; rfl) (by kernel_rfl) (by intro _ _ _ h; exact h) (by rfl) (by assumption) ?_ ?_
    rotate_left
    · intro W hSw; (try dsimp only at hSw); go_simp; try with_reducible rfl
    simp only [Act.put, List.setIfInBounds_toArray, List.set_cons_zero, List.set_cons_succ]
    refine heldTake 4 (v := ?_) (by simp only [List.getElem?_toArray, List.getElem?_cons_succ, List.getElem?_cons_zero]; rfl) (by kernel_rfl) (by intro _ _ _ h; exact h) (by rfl) (by assumption) ?_ ?_
    rotate_left
    · intro W hSw; (try dsimp only at hSw); go_simp; try with_reducible rfl
    simp only [Act.put, List.setIfInBounds_toArray, List.set_cons_zero, List.set_cons_succ]
    refine heldTake 5 (v := ?_) (by simp only [List.getElem?_toArray, List.getElem?_cons_succ, List.getElem?_cons_zero]; rfl) (by kernel_rfl) (by intro _ _ _ h; exact h) (by rfl) (by assumption) ?_ ?_
    rotate_left
    · intro W hSw; (try dsimp only at hSw); go_simp; try with_reducible rfl
    simp only [Act.put, List.setIfInBounds_toArray, List.set_cons_zero, List.set_cons_succ]
    refine heldTake 6 (v := ?_) (by simp only [List.getElem?_toArray, List.getElem?_cons_succ, List.getElem?_cons_zero]; rfl) (by kernel_rfl) (by intro _ _ _ h; exact h) (by rfl) (by assumption) ?_ ?_
    rotate_left
    · intro W hSw; (try dsimp only at hSw); go_simp; try with_reducible rfl
    simp only [Act.put, List.setIfInBounds_toArray, List.set_cons_zero, List.set_cons_succ]
    refine heldTake 9 (v := ?_) (by simp only [List.getElem?_toArray, List.getElem?_cons_succ, List.getElem?_cons_zero]; rfl) (by kernel_rfl) (by intro _ _ _ h; exact h) (by rfl) (by assumption) ?_ ?_
    rotate_left
    · intro W hSw; (try dsimp only at hSw); go_simp; try with_reducible rfl
    simp only [Act.put, List.setIfInBounds_toArray, List.set_cons_zero, List.set_cons_succ]
    refine heldCall 7 (by simp only [List.getElem?_toArray, List.getElem?_cons_succ, List.getElem?_cons_zero]; rfl) (by kernel_rfl) (fun K hK => ?_)
    go_simp
    refine Calls.mono HEN.out ?_
    rintro e w5 ⟨A5, c5, rfl, hr5, hb5⟩
    replace hKe : Below w3.heap.size w3 w5 := hKe.trans (hb5.mono hKe.size)
    clear hb5
    refine hK.out _ _ ?_ (fun hHeld => ?_)
    · trivial
    clear hK K
    (try simp only [Act.put, List.setIfInBounds_toArray, List.set_cons_zero, List.set_cons_succ])
    refine heldFork 8 10 (by kernel_rfl) ?_ ?_
    · refine heldOp 8 (by simp only [List.getElem?_toArray, List.getElem?_cons_succ, List.getElem?_cons_zero]; rfl) (fun K hK => ?_)
      have hcv := conv_row hr5
      have hcv2 := HSTR.out
      unfold bstr at hcv2
      rw [← hcv2] at hcv
      clear hcv2
      go_simp
      clear hcv
      refine hK.out _ _ ?_ (fun hHeld => ?_)
      · trivial
      clear hK K
      (try simp only [Act.put, List.setIfInBounds_toArray, List.set_cons_zero, List.set_cons_succ])
      refine heldCall 10 (by simp only [List.getElem?_toArray, List.getElem?_cons_succ, List.getElem?_cons_zero]; rfl) (by kernel_rfl) (fun K hK => ?_)
      go_simp
      refine Calls.mono (HTX.out _ hKe) ?_
      rintro e w6 ⟨he6, hb6⟩
      rw [← HSTR.out] at he6
      subst he6
      replace hr5 := hr5.below hb6
      replace hKe : Below w3.heap.size w3 w6 := hKe.trans (hb6.mono hKe.size)
      clear hb6
      refine hK.out _ _ ?_ (fun hHeld => ?_)
      · trivial
      clear hK K
      (try simp only [Act.put, List.setIfInBounds_toArray, List.set_cons_zero, List.set_cons_succ])
      refine heldTake 11 (v := ?_) (by simp only [List.getElem?_toArray, List.getElem?_cons_succ, List.getElem?_cons_zero]; rfl) (by kernel_rfl) (by intro _ _ _ h; exact h) (by rfl) (by assumption) ?_ ?_
      rotate_left
      · intro W hSw; (try dsimp only at hSw); go_simp; try with_reducible rfl
      simp only [Act.put, List.setIfInBounds_toArray, List.set_cons_zero, List.set_cons_succ]
      refine heldTake 12 (v := ?_) (by simp only [List.getElem?_toArray, List.getElem?_cons_succ, List.getElem?_cons_zero]; rfl) (by kernel_rfl) (by intro _ _ _ h; exact h) (by rfl) (by assumption) ?_ ?_
      rotate_left
      · intro W hSw; (try dsimp only at hSw); go_simp; try with_reducible rfl
      simp only [Act.put, List.setIfInBounds_toArray, List.set_cons_zero, List.set_cons_succ]
      refine heldDone (by kernel_rfl) ?_ _
      go_wp2_with fail
      go_meet
      exact ⟨rfl, hKe⟩
    · refine heldOp 10 (by simp only [List.getElem?_toArray, List.getElem?_cons_succ, List.getElem?_cons_zero]; rfl) (fun K hK => ?_)
      go_simp
      refine Calls.mono (HTX.out _ hKe) ?_
      rintro e w6 ⟨he6, hb6⟩
      rw [← HSTR.out] at he6
      subst he6
      replace hr5 := hr5.below hb6
      replace hKe : Below w3.heap.size w3 w6 := hKe.trans (hb6.mono hKe.size)
      clear hb6
      refine hK.out _ _ ?_ (fun hHeld => ?_)
      · trivial
      clear hK K
      (try simp only [Act.put, List.setIfInBounds_toArray, List.set_cons_zero, List.set_cons_succ])
      refine heldCall 8 (by simp only [List.getElem?_toArray, List.getElem?_cons_succ, List.getElem?_cons_zero]; rfl) (by kernel_rfl) (fun K hK => ?_)
      have hcv := conv_row hr5
      have hcv2 := HSTR.out
      unfold bstr at hcv2
      rw [← hcv2] at hcv
      clear hcv2
      go_simp
      clear hcv
      refine hK.out _ _ ?_ (fun hHeld => ?_)
      · trivial
      clear hK K
      (try simp only [Act.put, List.setIfInBounds_toArray, List.set_cons_zero, List.set_cons_succ])
      refine heldTake 11 (v := ?_) (by simp only [List.getElem?_toArray, List.getElem?_cons_succ, List.getElem?_cons_zero]; rfl) (by kernel_rfl) (by intro _ _ _ h; exact h) (by rfl) (by assumption) ?_ ?_
      rotate_left
      · intro W hSw; (try dsimp only at hSw); go_simp; try with_reducible rfl
      simp only [Act.put, List.setIfInBounds_toArray, List.set_cons_zero, List.set_cons_succ]
      refine heldTake 12 (v := ?_) (by simp only [List.getElem?_toArray, List.getElem?_cons_succ, List.getElem?_cons_zero]; rfl) (by kernel_rfl) (by intro _ _ _ h; exact h) (by rfl) (by assumption) ?_ ?_
      rotate_left
      · intro W hSw; (try dsimp only at hSw); go_simp; try with_reducible rfl
      simp only [Act.put, List.setIfInBounds_toArray, List.set_cons_zero, List.set_cons_succ]
      refine heldDone (by kernel_rfl) ?_ _
      go_wp2_with fail
      go_meet
      exact ⟨rfl, hKe⟩
  case rest =>
    obtain ⟨rfl, hwx⟩ := hcut
    obtain ⟨w4, hwc⟩ : ∃ w4 : World, w4 = wc := ⟨_, rfl⟩
    rw [← hwc] at hwx ⊢
    clear hwc
    have HB4 := Lib.hid (HB3.out.trans (hwx.mono HB3.out.size))
    have HS4 := Lib.hid ((SetObj.own sb F).below HS3.out hwx)
    have HXA4 := Lib.hid ((HXA3.out.below hwx).more hwx.size)
    have HST4 := Lib.hid ((HST.out.below hwx).more hwx.size)
    clear hwx HEN HTX HSTR hse hsn hne0
    go_wp2_with fail
    go_loopg [6, 29] xs.length (fun rest s6 s29 wr => ∃ i : Nat, s29 = .int .i64 i ∧ s6 = .int .i64 (sumLn (xs.take i) : Nat) ∧ Hid (i + rest = xs.length) ∧ (i : Int) ≤ 200 ∧ Hid (Below w4.heap.size w4 wr))
    case atStart => exact ⟨0, rfl, rfl, Lib.hid (by simp), by omega, Lib.hid (Below.refl _ _)⟩
    case round =>
      obtain ⟨i, rfl, rfl, HI, hi0, HBR⟩ := hrel
      by_cases hi : (i : Int) < (xs.length : Int)
      · have hil : i < xs.length := by omega
        have hmx := List.getElem_mem hil
        obtain ⟨b, o, rfl, hbl, y1, y2, hso⟩ := (HXA4.out.below HBR.out).one hil
        have hcell : ∀ W, Below w4.heap.size w4 W → W.cell? ⟨b, o + i * 2, none⟩ = some (.string xs[i].name) ∧ W.cell? ⟨b, o + i * 2 + 1, none⟩ = some (.slice xs[i].adr xs[i].l.length xs[i].cap) := fun W hW => by
          obtain ⟨b', o', e, -, z1, z2, -⟩ := (HXA4.out.below hW).one hil
          injection e with e
          injection e with e1 e2
          subst e1 e2
          exact ⟨z1, z2⟩
        obtain ⟨bs, os, rfl, hbs, e1, e2⟩ := (HST4.out.below HBR.out).one (k := i) (by simpa using hil)
        rw [List.getElem_map] at e1 e2
        obtain ⟨r1, r2, r3⟩ := HX.out.1.ranges HF.out.ok (List.mem_map.2 ⟨_, hmx, rfl⟩)
        have hll := HLL.out _ hmx
        have hsl := sumLn_snoc (xs.take i) xs[i]
        rw [← List.take_succ_eq_append_getElem hil] at hsl
        have hsb := sumLn_bd (xs := xs.take i) (M := 200) (fun s hs => HLL.out s (List.mem_of_mem_take hs))
        have hsb2 : (xs.take i).length * 200 ≤ 200 * 200 := Nat.mul_le_mul_right _ (by rw [List.length_take]; omega)
        have hkz : xs[i].name.size ≤ maxLen := by
          have := HE.out.key _ (List.mem_map.2 ⟨_, hmx, rfl⟩)
          unfold maxLen; omega
        have hlb : ∀ n ∈ xs[i].l, 1 ≤ n ∧ n ≤ 1099511627776 := fun n hn => by
          have h1 := r3 n hn
          have hm : memR (F xs[i].name) n := by
            rw [← HX.out.1.mem]
            exact ⟨plS xs[i], List.mem_map.2 ⟨_, hmx, rfl⟩, rfl, hn⟩
          obtain ⟨r, hr, h2, h3⟩ := hm
          have := HF.out.top _ r hr
          exact ⟨h1, by omega⟩
        have HCELL := Lib.hid hcell
        have HSL := Lib.hid hsl
        clear hsl hcell hmx y1 y2
        simp only [plS] at r1 r2 r3
        generalize hs : xs[i] = s at *
        obtain ⟨name, adr, cp, ls⟩ := s
        simp only at r1 r2 r3 hll hso hkz hlb HCELL HSL e1 e2
        clear hs r2 r3
        have hrl := HFL.out name
        have hq1 := fun W (hW : Below wr.heap.size wr W) => ranges_any sb G F name W (((SetObj.own sb F).below HS4.out HBR.out) |> fun h => (SetObj.own sb F).below h hW) hkz (by omega)
        have hq2 := fun W (hW : Below wr.heap.size wr W) => rranges_any adr cp ls W ((hso.more HBR.out.size).below hW |>.more hW.size) (by omega) hlb
        rw [r1] at hq2
        have hq3 := fun W (hW : Below wr.heap.size wr W) => next_any sb G F name W (((SetObj.own sb F).below HS4.out HBR.out) |> fun h => (SetObj.own sb F).below h hW) hkz
        have hq4 := fun W (hW : Below wr.heap.size wr W) => rnext_any (some ⟨b, o, none⟩) c w4.heap.size xs name (F name) W ((HXA4.out.below HBR.out).below (hW.mono HBR.out.size)) HX.out.2 (by omega) (fun s hs => by have := HLL.out s hs; omega) (HF.out.ok name) (HF.out.top name) (HX.out.1.mem name)
        have Q1 := Lib.hid hq1
        have Q2 := Lib.hid hq2
        have Q3 := Lib.hid hq3
        have Q4 := Lib.hid hq4
        have hrlen : (F name).length ≤ 1000 := hrl
        have hsm : (sumLn (xs.take i) : Int) ≤ 40000 := by omega
        clear hq1 hq2 hq3 hq4 hso hlb r1 hrl hsb hsb2
        generalize F name = R at *
        generalize sumLn (xs.take i) = sm at *
        have hwr := Below.refl wr.heap.size wr
        generalize gk = g1 at *
        go_wp2_with fail
        refine Calls.mono (Q1.out wr (Below.refl _ _)) ?_
        rintro e v1 ⟨A5, c5, rfl, hrd5, hb5⟩
        obtain ⟨-, z2⟩ := HCELL.out v1 (HBR.out.trans (hb5.mono HBR.out.size))
        have HV1 := Lib.hid hb5
        have HR5 := Lib.hid hrd5
        clear hb5 hrd5 Q1
        go_wp2_with fail
        refine Calls.mono (Q2.out v1 HV1.out) ?_
        rintro e v2 ⟨A6, c6, rfl, hown6, hb6⟩
        have hrd6 := Reads.of_own hown6
        have HR6 := Lib.hid hrd6
        have HR5b := Lib.hid ((HR5.out.below hb6).more hb6.size)
        have HV2 := Lib.hid (HV1.out.trans (hb6.mono HV1.out.size))
        obtain ⟨z3, -⟩ := HCELL.out v2 (HBR.out.trans (HV2.out.mono HBR.out.size))
        have hnn : (name.toList == name.toList) = true := by simp
        have hnn2 : (name.toList != name.toList) = false := by simp
        have hrr : ((R.length : Int) != (R.length : Int)) = false := by simp
        clear hb6 hown6 hrd6 Q2 z2
        go_wp2_with fail
        refine Calls.mono (Q3.out v2 HV2.out) ?_
        rintro e v3 ⟨rfl, hb3'⟩
        have HV3 := Lib.hid (HV2.out.trans (hb3'.mono HV2.out.size))
        have HR5c := Lib.hid ((HR5b.out.below hb3').more hb3'.size)
        have HR6c := Lib.hid ((HR6.out.below hb3').more hb3'.size)
        clear hb3' z3
        go_wp2_with fail
        refine Calls.mono (Q4.out v3 HV3.out) ?_
        rintro e v4 ⟨rfl, rfl⟩
        have hnx : (nextR R == nextR R) = true := by simp
        have hnx2 : (nextR R != nextR R) = false := by simp
        clear Q3 Q4
        generalize nextR R = nx at *
        go_wp2_with fail
        (try go_frame)
        go_loopg [68] R.length (fun rest s68 wx => ∃ j : Nat, s68 = .int .i64 j ∧ Hid (j + rest = R.length) ∧ (j : Int) ≤ 1000 ∧ Hid (Below v3.heap.size v3 wx))
        case atStart => exact ⟨0, rfl, Lib.hid (by simp), by omega, Lib.hid (Below.refl _ _)⟩
        case round =>
          obtain ⟨j, rfl, HJ, hj0, HBX⟩ := hrel
          by_cases hj : (j : Int) < (R.length : Int)
          · have hjl : j < R.length := by omega
            obtain ⟨b7, o7, e7, hb7, hc7⟩ := (HR5c.out.below HBX.out).2 (by omega)
            obtain ⟨b8, o8, e8, hb8, hc8⟩ := (HR6c.out.below HBX.out).2 (by omega)
            subst e7 e8
            obtain ⟨x1, x2⟩ := rgsCells_at hjl
            have c1 := hc7 _ _ x1
            have c2 := hc7 _ _ x2
            have c3' := hc8 _ _ x1
            have c4 := hc8 _ _ x2
            rw [← Nat.add_assoc] at c2 c4
            generalize R[j] = rj at *
            obtain ⟨f, t⟩ := rj
            simp only at c1 c2 c3' c4
            have hne := fun W => neq_rgD f t f t W
            have hbt : (!(f == f && t == t)) = false := by simp
            rw [hbt] at hne
            clear hc7 hc8 x1 x2 hbt
            go_wp2_with fail
            go_quiet (fail)
            all_goals go_wp2_with fail
            all_goals go_roundg (gk - 1)
            case measure => have := HJ.out; omega
            case rel => exact ⟨j + 1, by go_num, Lib.hid (by have := HJ.out; omega), by omega, Lib.hid (below_drewN HBX.out _)⟩
          · have hje : j = R.length := by have := HJ.out; omega
            have hbf : Below w4.heap.size w4 wr := HBR.out.trans ((HV3.out.trans (HBX.out.mono HV3.out.size)).mono HBR.out.size)
            have HBF := Lib.hid hbf
            obtain ⟨-, z4⟩ := HCELL.out wr hbf
            have hw : wrap64 ((sm : Int) + (ls.length : Int)) = (sm : Int) + (ls.length : Int) := by unfold wrap64; omega
            clear hbf
            go_wp2_with fail
            go_roundg (g1 - 1)
            case measure => have := HI.out; omega
            case rel => exact ⟨i + 1, by go_num, by rw [HSL.out]; push_cast; rfl, Lib.hid (by have := HI.out; omega), by omega, HBF⟩
      · have hie : i = xs.length := by have := HI.out; omega
        have hte : xs.take i = xs := by rw [hie, List.take_length]
        rw [hte]
        clear hte
        have hsum := HX.out.1.sumAll HF.out.ok xs (fun _ h => h)
        have hct := count_any sb G F wr ((SetObj.own sb F).below HS4.out HBR.out) (xs.map (·.name)) HKS.out (by rw [List.length_map]; omega) HF.out.top (fun k => by have := HFL.out k; omega)
        rw [hsum] at hct
        have HCT := Lib.hid hct
        clear hct hsum
        generalize sumLn xs = sm at *
        have hss : ((sm : Int) == (sm : Int)) = true := by simp
        have hss2 : ((sm : Int) != (sm : Int)) = false := by simp
        go_wp2_with fail
        refine Calls.mono HCT.out ?_
        rintro e v1 ⟨rfl, hb5⟩
        have hfin : Below w.heap.size w v1 := HB4.out.trans ((HBR.out.trans (hb5.mono HBR.out.size)).mono HB4.out.size)
        have HFN := Lib.hid hfin
        clear hb5 hfin
        go_wp2_with fail
        go_ret
        exact ⟨rfl, HFN.out⟩
end Go.Proofs.Ytcladmcbhnmhiaa
