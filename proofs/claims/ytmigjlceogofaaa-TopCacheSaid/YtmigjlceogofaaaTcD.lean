/- The walk of TopCache. -/
import Derived.Test.YtmigjlceogofaaaTcC
import Derived.Test.YtmigjlceogofaaaKitT
import Derived.Test.YtmigjlceogofaaaKitC
import Derived.Test.YtmigjlceogofaaaKitD
namespace Go.Proofs.Ytmigjlceogofaaa
open Go.ChangeShapes Go.WideShapes Go.ChangeAt Go.RowKit
set_option linter.unusedVariables false
set_option linter.unusedSimpArgs false

section
variable {H : Type} {enc : TypeId × Value → H} {w : World}
theorem dec_u8s : Dec enc Try.prog w 37 (slCells (α := Int)) (SlEx w 1 (fun n : Int => [.int .u8 n]) (fun n => 0 ≤ n ∧ n ≤ 255)) :=
  dec_slice Try.underlying37 (by omega) (by kernel_rfl) (fun _ => rfl) ((dec_int Try.underlying5).map id (fun a => rfl) (fun a h => bounds_u8 h))
end
theorem flat_u8 (l : List Int) : l.flatMap (fun n : Int => [Value.int .u8 n]) = l.map (Value.int .u8) := by induction l <;> simp_all [List.flatMap_cons]
/-- A row of small numbers. -/
def U8sAt (w : World) (B : Nat) (A : Option Addr) (l : List Int) : Prop := Reads w B 1 A l.length (l.map (Value.int .u8)) ∧ ∀ n ∈ l, 0 ≤ n ∧ n ≤ 255
theorem U8sAt.one {w : World} {B : Nat} {A : Option Addr} {l : List Int} (h : U8sAt w B A l) {k : Nat} (hk : k < l.length) : ∃ b o, A = some ⟨b, o, none⟩ ∧ b < B ∧ w.cell? ⟨b, o + k, none⟩ = some (.int .u8 l[k]) := h.1.one hk
theorem U8sAt.below {w w' : World} {B : Nat} {A : Option Addr} {l : List Int} (h : U8sAt w B A l) (hb : Below B w w') : U8sAt w' B A l := ⟨h.1.below hb, h.2⟩
theorem zero_str : ∀ w : World, (zeroValue 9).run Try.prog w = .ok (.string ⟨#[]⟩) w := Try.zeroValue9

theorem ckeys_q {cb : Nat} {sz us : Int} {V : CView} {w : World} {F : Nat → Prop} (h : CacO cb sz us V w F) (hi : VInv us V) {M : CView} (hM : InOrder M V) (hl : (V.length : Int) ≤ 1000000) :
    Calls Try.prog 21 #[.pointer (some ⟨cb, 0, none⟩)] w (RowNew w (M.map (·.1))) := by
  obtain ⟨bs, S, E, h, rfl, hF⟩ := h
  exact ckeys_any h hi.dis M hM.1 hM.2 (by simpa [viewOf] using hl)

theorem tmod_nat {x : Int} {m : Nat} (h0 : 0 ≤ x) (hm : 0 < m) : ∃ j : Nat, j < m ∧ x.tmod (m : Int) = (j : Int) := by
  refine ⟨(x.tmod m).toNat, ?_, ?_⟩
  · rw [Int.tmod_eq_emod_of_nonneg h0]
    have := Int.emod_lt_of_pos x (show (0 : Int) < m by omega)
    have := Int.emod_nonneg x (show (m : Int) ≠ 0 by omega)
    omega
  · rw [Int.tmod_eq_emod_of_nonneg h0]
    have := Int.emod_nonneg x (show (m : Int) ≠ 0 by omega)
    omega
theorem strs_one (w : World) (d : ByteArray) (hd : strOk d) (t : TypeId) : StrsAt (w.alloc (.cells #[.string d] t)) (w.alloc (.cells #[.string d] t)).heap.size (some ⟨w.heap.size, 0, none⟩) [d] := by
  refine ⟨⟨by simp, fun _ => ⟨w.heap.size, 0, rfl, by simp, ?_⟩⟩, by intro s hs; simp at hs; subst hs; exact hd⟩
  intro j v hv
  cases j with
  | zero => simp at hv; subst hv; simp
  | succ j => simp at hv
theorem rep_ok {j : Nat} (hj : j < 7) : (repV ⟨#[118]⟩ j).size ≤ maxLen := by
  have h : ∀ i : Fin 7, (repV ⟨#[118]⟩ i.1).size ≤ 100 := by decide
  have := h ⟨j, hj⟩
  have h2 : 100 ≤ maxLen := by decide
  exact Nat.le_trans this h2
theorem TcMem.iter {w0 wr w' : World} {cb wb hb nb rg : Nat} {sz us : Int} {V : CView} {F : Nat → Prop} {Wt Hg : SMap} (p : TcMem w0 wr cb wb hb nb sz us V F Wt Hg) (hk : Keeps (fun k => k = rg) wr w') (hF : ¬ F rg) (h1 : wb ≠ rg) (h2 : hb ≠ rg) (h3 : nb ≠ rg) (h4 : w0.heap.size ≤ rg) : TcMem w0 w' cb wb hb nb sz us V F Wt Hg :=
  { p with
    cac := (CacO.own _ _ _ _).keep p.cac hk (fun k hf e => hF (by have e' : k = rg := e; rw [← e']; exact hf))
    wt := p.wt.keep hk h1
    hg := p.hg.keep hk h2
    nms := fun j hj => (hk.cell (p := ⟨nb, j, none⟩) p.nlt h3).trans (p.nms j hj)
    nlt := Nat.lt_of_lt_of_le p.nlt hk.size
    below := p.below.trans (hk.toBelow p.below.size (fun k e => by have e' : k = rg := e; rw [e']; exact h4)) }
/-- The loop's relation. -/
def TcRel (w0 : World) (cb wb hb nb : Nat) (sz : Int) (n rest : Nat) (ii : Value) (wr : World) : Prop :=
  ∃ (k : Nat) (us : Int) (V : CView) (F : Nat → Prop) (Wt Hg : SMap), ii = .int .i64 k ∧ Hid (k + rest = n) ∧ TcMem w0 wr cb wb hb nb sz us V F Wt Hg ∧ TcInv us V Wt Hg ∧ (0 ≤ us ∧ us ≤ (k : Int)) ∧ (V.length : Int) ≤ sz

set_option maxRecDepth 20000 in
set_option maxHeartbeats 16000000 in
theorem topCache_walk (size : Int) (A : Option Addr) (c : Nat) (l : List Int) (DA : Option Addr) (dc : Nat) (ds : List Int) (w : World) (hsz : 0 ≤ size ∧ size ≤ 255) (h : U8sAt w w.heap.size A l) (hl : (l.length : Int) ≤ 9223372036854775807) (hd : U8sAt w w.heap.size DA ds) (hdl : (ds.length : Int) ≤ 9223372036854775807) :
    Calls Try.prog 4 #[.int .u8 size, .slice A l.length c, .slice DA ds.length dc] w fun e w' => e = .returned (.bool true) ∧ Below w.heap.size w w' := by
  obtain ⟨sz0, sz1⟩ := hsz
  by_cases hg : (l.length : Int) ≤ 40 ∧ 0 < (ds.length : Int)
  · obtain ⟨hl40, hd0⟩ := hg
    have g1 : ¬ 40 < (l.length : Int) := by omega
    have g2 : ¬ (ds.length : Int) = 0 := by omega
    have g5 : ((ds.length : Int) == 0) = false := by rw [beq_eq_false_iff_ne]; exact g2
    have g6 : decide (40 < (l.length : Int)) = false := by rw [decide_eq_false_iff_not]; exact g1
    obtain ⟨r, hr⟩ : ∃ r : Int, size.tmod 9 = r := ⟨_, rfl⟩
    have hr' : 0 ≤ r ∧ r ≤ 8 := by rw [Int.tmod_eq_emod_of_nonneg sz0] at hr; omega
    obtain ⟨r0, r1⟩ := hr'
    have HSZ : Hid (sizeOf' (1 + r) = 1 + r) := Lib.hid (by unfold sizeOf'; omega)
    go_enter Try.func4, Try.ntmps4
    go_wp2_with fail
    refine (name_a _).mono ?_
    rintro e w1 ⟨rfl, rfl⟩
    go_wp2_with fail
    refine (cnew_o (1 + r) _).mono ?_
    rintro e w2 ⟨cb, F, rfl, ho, hF, hb2⟩
    rw [HSZ.out] at ho
    have z2 := hb2.size
    have hmm := @run_makeMap Try.prog
    go_wp2_with fail
    have hP0 := TcMem.start z2 hb2 ho hF 9
    have HP0 := Lib.hid hP0
    clear hP0 ho hF hb2 hmm
    have e2 : w2.heap.size + 1 + 1 = w2.heap.size + 2 := rfl
    go_loopg [45] l.length (TcRel w cb w2.heap.size (w2.heap.size + 1) (w2.heap.size + 2) (1 + r) l.length)
    case atStart => exact ⟨0, 0, [], F, [], [], rfl, Lib.hid (by simp), HP0.out, TcInv.init, by omega, by simp; omega⟩
    case round =>
      clear HP0 e2
      obtain ⟨k, us, V, F, Wt, Hg, rfl, HK, hM, hI, ⟨u0, u1⟩, hvl⟩ := hrel
      generalize w2.heap.size + 2 = nb at *
      generalize w2.heap.size + 1 = hbk at *
      generalize w2.heap.size = wb at *
      have hb := hM.below
      have hz := hb.size
      have hkl' : (k : Int) ≤ (l.length : Int) := by have := HK.out; omega
      have HM := Lib.hid hM
      have HI := Lib.hid hI
      clear hM hI
      by_cases hk : (k : Int) < (l.length : Int)
      · have hkl : k < l.length := by omega
        obtain ⟨b, o, rfl, hbl, d0⟩ := (h.below hb).one hkl
        obtain ⟨x0, x1⟩ := h.2 _ (List.getElem_mem hkl)
        generalize l[k] = x at *
        obtain ⟨q, hq, eq⟩ := tmod_nat (x := (k : Int)) (m := ds.length) (by omega) (by omega)
        obtain ⟨bd, od, rfl, hbd, d1⟩ := (hd.below hb).one hq
        obtain ⟨y0, y1⟩ := hd.2 _ (List.getElem_mem hq)
        generalize ds[q] = y at *
        obtain ⟨j1, hj1, ej1⟩ := tmod_nat (x := x) (m := 4) (by omega) (by omega)
        obtain ⟨j2, hj2, ej2⟩ := tmod_nat (x := y) (m := 4) (by omega) (by omega)
        have n1 := HM.out.nms j1 hj1
        have n2 := HM.out.nms j2 hj2
        have k1 := nm4_ok j1
        have k2 := nm4_ok j2
        have ej1' : x.tmod 4 = (j1 : Int) := ej1
        have ej2' : y.tmod 4 = (j2 : Int) := ej2
        have hq' : (q : Int) < (ds.length : Int) := by omega
        have hj1' : (j1 : Int) < 4 := by omega
        have hj2' : (j2 : Int) < 4 := by omega
        clear ej1 ej2
        generalize nm4 j1 = key at *
        generalize nm4 j2 = dep at *
        go_wp2_with fail
        go_quiet (fail)
        have hbX : Below wr.heap.size wr (wr.drewN nq) := below_drewN (Below.refl _ _) nq
        have HX := Lib.hid (HM.out.grow hbX)
        clear hbX HM n1 n2 d0 d1
        generalize wr.drewN nq = wX at *
        obtain ⟨m, hm, em⟩ := tmod_nat (x := x.tdiv 4) (m := 3) (Int.tdiv_nonneg (by omega) (by omega)) (by omega)
        have hm3 : m = 0 ∨ m = 1 ∨ m = 2 := by omega
        have eq4 : x.tdiv 4 = x / 4 := Int.tdiv_eq_ediv_of_nonneg (by omega)
        have em2 : (x / 4).tmod 3 = (m : Int) := by rw [← eq4]; exact em
        have em3 : x / 4 % 3 = (m : Int) := by rw [← em2, Int.tmod_eq_emod_of_nonneg (by omega)]
        clear eq4
        rcases hm3 with rfl | rfl | rfl
        · have em' : (x.tdiv 4).tmod 3 = 0 := em
          have em2' : (x / 4).tmod 3 = 0 := em2
          have em3' : x / 4 % 3 = 0 := em3
          clear em2 em3
          obtain ⟨j7, hj7, ej7⟩ := tmod_nat (x := (k : Int)) (m := 7) (by omega) (by omega)
          have ej7' : (k : Int).tmod 7 = (j7 : Int) := ej7
          have hval := rep_ok hj7
          have QR := Lib.hid (repeat_any ⟨#[118]⟩ j7 wX (by omega) (by have : (ByteArray.mk #[118]).size = 1 := rfl; rw [this]; omega))
          clear em ej7
          generalize repV ⟨#[118]⟩ j7 = val at *
          go_wp2_with fail
          refine QR.out.mono ?_
          rintro e w5 ⟨rfl, hb5⟩
          go_wp2_with fail
          have HX5 := Lib.hid (HX.out.grow (hb5.alloc hb5.size (.cells #[.string dep] 9)))
          have HS := Lib.hid (strs_one w5 dep k2 9)
          refine (cput_o HX5.out.cac u0 (by omega) key val k1 hval _ _ [dep] HS.out (by simp) (by omega) (by omega) (by omega)).mono ?_
          rintro e w6 ⟨rfl, V', F', hc, ho6, hu6⟩
          have hX6 := HX5.out.cache ho6 hu6
          obtain ⟨w7, hrun7, hm7, hk7, hs7⟩ := hX6.wt.put (P := Try.prog) strKey (t := 41) Try.underlying41 (x := key) k1 val
          have hX7 := hX6.setW hk7 hm7
          obtain ⟨w8, hrun8, hm8, hk8, hs8⟩ := hX7.hg.put (P := Try.prog) strKey (t := 41) Try.underlying41 (x := key) k1 dep
          have HX8 := Lib.hid (hX7.setH hk8 hm8)
          have HI8 := Lib.hid (HI.out.put hc)
          have HV8 : Hid ((V'.length : Int) ≤ 1 + r) := Lib.hid (hc.size (nodup_mput HI.out.inv.nd _ _) (by have := mput_len V key (⟨val, [dep], us + 1⟩ : PEnt); omega))
          simp only [strKf] at hrun7 hrun8
          clear hX6 hX7 hm7 hm8 hk7 hk8 hs7 hs8 hc ho6 hu6
          go_wp2
          go_roundg (l.length - (k + 1))
          case measure => have := HK.out; omega
          case rel => exact ⟨k + 1, us + 1, V', F', _, _, by go_num, Lib.hid (by have := HK.out; omega), HX8.out, HI8.out, by constructor <;> omega, HV8.out⟩
        · have em' : (x.tdiv 4).tmod 3 = 1 := em
          have em2' : (x / 4).tmod 3 = 1 := em2
          have em3' : x / 4 % 3 = 1 := em3
          clear em2 em3 em
          have HX5 := Lib.hid (HX.out.grow ((Below.refl _ _).alloc (Nat.le_refl _) (.cells #[.string dep] 9)))
          have HS := Lib.hid (strs_one wX dep k2 9)
          have HEL : Hid (∀ p ∈ V, (p.2.deps.length : Int) ≤ 1000000) := Lib.hid (fun p hp => by
            obtain ⟨_, d, hd, _⟩ := HI.out.has p hp
            rw [hd]; simp)
          go_wp2_with fail
          refine (ctouch_o HX5.out.cac _ _ [dep] HS.out (by simp) (by omega) HEL.out).mono ?_
          rintro e w6 ⟨rfl, F6, ho6, hu6⟩
          have hX6 := HX5.out.cache ho6 hu6
          have HX6 := Lib.hid hX6
          have hg6 := hX6.hg
          have HTL : Hid (((touchV V [dep]).length : Int) ≤ 1 + r) := Lib.hid (by
            have : (touchV V [dep]).length ≤ V.length := List.length_filter_le _ _
            omega)
          have HGO := Lib.hid hg6.ok
          have HGN := Lib.hid hg6.nodup
          clear ho6 hu6 hX6 HS HX5
          go_wp2_with (at_range; refine wpList_range_is rfl _ _ rfl Try.underlying41 rfl hg6 ?_; intro w7 hrg7 hb7 hs7)
          have HX7 := Lib.hid (HX6.out.grow hb7)
          have hw6 := HX6.out.wt.lt
          have hh6 := hg6.lt
          have hn6 := HX6.out.nlt
          have HF6 : Hid (¬ F6 w6.heap.size) := Lib.hid (fun hq => by have := (CacO.own _ _ _ _).lt HX6.out.cac _ hq; omega)
          have hz6 : w.heap.size ≤ w6.heap.size := HX6.out.below.size
          clear hb7 hs7 hg6
          generalize w6.heap.size = rg at *
          go_frame
          go_loopg [] Hg.length (fun rest wr => ∃ left Wt' : SMap, RangeAt wr strKf strKf rg (some hbk) left ∧ TcMem w wr cb wb hbk nb (1 + r) us (touchV V [dep]) F6 Wt' Hg ∧ Hid (∀ q ∈ left, q ∈ Hg) ∧ Hid (rest = left.length) ∧ Hid (∀ x d, mget Hg x = some d → d ≠ dep → mget Wt' x = mget Wt x))
          case atStart => exact ⟨Hg, Wt, hrg7, HX7.out, Lib.hid (fun _ h => h), Lib.hid rfl, Lib.hid (fun _ _ _ _ => rfl)⟩
          case round =>
            obtain ⟨left, Wt', hrg, hX, HSB, HL, HW⟩ := hrel
            go_wp2_with (at_next; refine wpList_next_is rfl _ rfl rfl hrg ?_ ?_)
            · intro h0
              have HXE := Lib.hid hX
              have HI8 := Lib.hid (HI.out.touch HW.out)
              clear hX
              (try go_frame)
              go_wp2
              go_roundg (l.length - (k + 1))
              case measure => have := HK.out; omega
              case rel => exact ⟨k + 1, us, touchV V [dep], F6, Wt', Hg, by go_num, Lib.hid (by have := HK.out; omega), HXE.out, HI8.out, by constructor <;> omega, HTL.out⟩
            · intro x' v w8 hmem hrg8 hk8 hz8 hen
              have hml : (mdel left x').length + 1 = left.length := mdel_len hrg.nodup (p := (x', v)) hmem
              have HML := Lib.hid hml
              have HSB2 : Hid (∀ q ∈ mdel left x', q ∈ Hg) := Lib.hid (fun q hq => HSB.out _ ((List.mem_filter.1 hq).1))
              have hxg := HSB.out _ hmem
              have hokx := HGO.out _ hxg
              have HXG := Lib.hid (mget_of_mem HGN.out hxg)
              have HX8 := Lib.hid (hX.iter hk8 HF6.out (by omega) (by omega) (by omega) hz6)
              simp only [strKf] at hen
              have hwh := HX8.out.wh
              have HRG8 := Lib.hid hrg8
              clear hml hX hk8 hz8 hrg8
              by_cases hv : v = dep
              · have hve : (v.toList == dep.toList) = true := by rw [hv]; simp
                have hwt8 := HX8.out.wt
                have HV := Lib.hid hv
                clear hv
                (try go_frame)
                go_wp2_with (at_delete; refine wpList_delete_is (y := x') rfl _ _ _ rfl Try.underlying41 rfl rfl hokx strKey hwt8 ?_; intro w9 hm9 hk9 hz9; go_frame)
                have HX9 := Lib.hid (HX8.out.setW hk9 hm9)
                have HR9 := Lib.hid (HRG8.out.keep hk9 (show ¬ rg = wb by omega) (fun b hb e => by
                  have hb' : hbk = b := by injection hb
                  have e' : b = wb := e
                  omega))
                (try go_wp2)
                go_roundg (gk - 1)
                case measure => have := HL.out; have := HML.out; omega
                case rel => exact ⟨mdel left x', mdel Wt' x', HR9.out, HX9.out, HSB2, Lib.hid (by have := HL.out; have := HML.out; omega), Lib.hid (fun z d hz hd => by
                  have hne : z ≠ x' := fun e => by
                    rw [e, HXG.out] at hz
                    injection hz with hz
                    exact hd (hz.symm.trans HV.out)
                  rw [mget_mdel, if_neg hne]
                  exact HW.out z d hz hd)⟩
              · have hve : (v.toList == dep.toList) = false := by rw [str_beq]; simp [hv]
                clear hv
                (try go_frame)
                go_wp2
                go_roundg (gk - 1)
                case measure => have := HL.out; have := HML.out; omega
                case rel => exact ⟨mdel left x', Wt', HRG8.out, HX8.out, HSB2, Lib.hid (by have := HL.out; have := HML.out; omega), HW⟩
        · have em' : (x.tdiv 4).tmod 3 = 2 := em
          have em2' : (x / 4).tmod 3 = 2 := em2
          have em3' : x / 4 % 3 = 2 := em3
          clear em2 em3 em
          go_wp2_with fail
          refine (cget_o HX.out.cac u0 (by omega) key k1).mono ?_
          intro e w6 hp
          unfold CGetO at hp
          cases hgk : mget V key with
          | none =>
            rw [hgk] at hp
            obtain ⟨rfl, rfl⟩ := hp
            have hlk := HX.out.wt.lookOk (P := Try.prog) strKey (t := 41) Try.underlying41 zero_str (x := key) k1
            simp only [strKf] at hlk
            clear hgk
            cases hwk : mget Wt key with
            | none =>
              rw [hwk] at hlk
              simp only [Option.map_none, Option.getD_none, Option.isSome_none] at hlk
              clear hwk
              go_wp2
              go_roundg (l.length - (k + 1))
              case measure => have := HK.out; omega
              case rel => exact ⟨k + 1, us, V, F, Wt, Hg, by go_num, Lib.hid (by have := HK.out; omega), HX.out, HI.out, by constructor <;> omega, hvl⟩
            | some t =>
              rw [hwk] at hlk
              simp only [Option.map_some, Option.getD_some, Option.isSome_some] at hlk
              clear hwk
              go_wp2
              go_roundg (l.length - (k + 1))
              case measure => have := HK.out; omega
              case rel => exact ⟨k + 1, us, V, F, Wt, Hg, by go_num, Lib.hid (by have := HK.out; omega), HX.out, HI.out, by constructor <;> omega, hvl⟩
          | some q' =>
            rw [hgk] at hp
            obtain ⟨rfl, F6, ho6, hu6⟩ := hp
            have HX6 := Lib.hid (HX.out.cache ho6 hu6)
            have HI6 := Lib.hid (HI.out.use key)
            have hlk := HX6.out.wt.lookOk (P := Try.prog) strKey (t := 41) Try.underlying41 zero_str (x := key) k1
            rw [HI.out.get hgk] at hlk
            simp only [strKf, Option.map_some, Option.getD_some, Option.isSome_some] at hlk
            have hne1 : (q'.val.toList == q'.val.toList) = true := by simp
            have hne2 : (q'.val.toList != q'.val.toList) = false := by simp
            have HVL : Hid (((useV V key (us + 1)).length : Int) ≤ 1 + r) := Lib.hid (by unfold useV; rw [List.length_map]; exact hvl)
            clear hgk ho6 hu6
            go_wp2
            go_roundg (l.length - (k + 1))
            case measure => have := HK.out; omega
            case rel => exact ⟨k + 1, us + 1, _, F6, Wt, Hg, by go_num, Lib.hid (by have := HK.out; omega), HX6.out, HI6.out, by constructor <;> omega, HVL.out⟩
      · obtain ⟨M, hMo⟩ := order_of HI.out.inv
        have HMO := Lib.hid hMo
        have HML : Hid ((M.map (·.1)).length = V.length) := Lib.hid (by rw [List.length_map]; exact hMo.1.length_eq)
        clear hMo
        go_wp2_with fail
        refine (clen_o HM.out.cac).mono ?_
        rintro e w3 ⟨rfl, rfl⟩
        go_wp2_with fail
        refine (ckeys_q HM.out.cac HI.out.inv HMO.out (by omega)).mono ?_
        rintro e w4 ⟨A4, c4, rfl, ho4, hb4⟩
        rw [HML.out]
        clear ho4
        go_wp2_with fail
        refine (clen_o (HM.out.grow hb4).cac).mono ?_
        rintro e w5 ⟨rfl, rfl⟩
        go_wp2
        go_ret
        exact ⟨by simp, hb.trans (hb4.mono hz)⟩
  · have HG := Lib.hid hg
    clear hg
    go_enter Try.func4, Try.ntmps4
    by_cases g1 : 40 < (l.length : Int)
    · have g6 : decide (40 < (l.length : Int)) = true := by simpa using g1
      go_wp2_with fail
      refine (name_a _).mono ?_
      rintro e w1 ⟨rfl, rfl⟩
      go_wp2_with fail
      refine (name_a _).mono ?_
      rintro e w1 ⟨rfl, rfl⟩
      go_wp2
      go_ret
      exact ⟨rfl, Below.refl _ _⟩
    · have g6 : decide (40 < (l.length : Int)) = false := by rw [decide_eq_false_iff_not]; exact g1
      have g2 : (ds.length : Int) = 0 := by
        rcases Int.lt_or_le 0 (ds.length : Int) with h1 | h1
        · exact absurd ⟨by omega, h1⟩ HG.out
        · omega
      have g5 : ((ds.length : Int) == 0) = true := by rw [beq_iff_eq]; exact g2
      clear g2
      go_wp2_with fail
      refine (name_a _).mono ?_
      rintro e w1 ⟨rfl, rfl⟩
      go_wp2_with fail
      refine (name_a _).mono ?_
      rintro e w1 ⟨rfl, rfl⟩
      go_wp2
      go_ret
      exact ⟨rfl, Below.refl _ _⟩
end Go.Proofs.Ytmigjlceogofaaa
