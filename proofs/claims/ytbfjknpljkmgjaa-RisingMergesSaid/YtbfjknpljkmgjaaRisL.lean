/- The walk of the statement RisingPane. -/
import Derived.Test.YtbfjknpljkmgjaaRisJ
import Derived.Test.YtbfjknpljkmgjaaRisK
import Derived.Test.YtbfjknpljkmgjaaKitT
namespace Go.Proofs.Ytbfjknpljkmgjaa
open Go.ChangeShapes Go.WideShapes Go.ChangeAt Go.RowKit Go.Shelf Go.Lib Go.Sort Go.Proofs
set_option linter.unusedVariables false
set_option linter.unusedSimpArgs false

theorem dec_u8s {H : Type} {enc : TypeId × Value → H} {w : World} : Dec enc Try.prog w 41 (slCells (α := Int)) (SlEx w 1 (fun n : Int => [.int .u8 n]) (fun n => 0 ≤ n ∧ n ≤ 255)) :=
  dec_slice Try.underlying41 (by omega) (by kernel_rfl) (fun _ => rfl) ((dec_int Try.underlying5).map id (fun a => rfl) (fun a h => bounds_u8 h))
def U8At (w : World) (B : Nat) (A : Option Addr) (l : List Int) : Prop := Reads w B 1 A l.length (l.map (Value.int .u8)) ∧ ∀ n ∈ l, 0 ≤ n ∧ n ≤ 255
theorem u8s_of {w : World} {A : Option Addr} {l : List Int} (h : Reads w w.heap.size 1 A l.length (l.flatMap (fun n => [Value.int .u8 n]))) (hx : ∀ n ∈ l, 0 ≤ n ∧ n ≤ 255) : U8At w w.heap.size A l := by
  have e : l.flatMap (fun n => [Value.int .u8 n]) = l.map (Value.int .u8) := by
    clear h hx
    induction l with
    | nil => rfl
    | cons a l ih => rw [List.flatMap_cons, ih]; rfl
  rw [e] at h
  exact ⟨h, hx⟩

def newS : ByteArray := ⟨#[110, 101, 119]⟩

theorem begB_bd {wd now : Int} (hw : 1 ≤ wd) (h0 : 0 ≤ now) : 0 ≤ begB wd now ∧ begB wd now ≤ now := by
  unfold begB
  have hm1 := Int.emod_nonneg now (show wd ≠ 0 by omega)
  have := Int.mul_ediv_add_emod now wd
  have h2 : 0 ≤ wd * (now / wd) := Int.mul_nonneg (by omega) (Int.ediv_nonneg h0 (by omega))
  omega

set_option maxRecDepth 20000 in
set_option maxHeartbeats 4000000 in
theorem pane_walk (width : Int) (A : Option Addr) (c : Nat) (l : List AddD) (times now : Int) (A' : Option Addr) (c' : Nat) (more : List Int) (w : World) (hl : AddsAt w w.heap.size A l) (hlen : (l.length : Int) ≤ 9223372036854775807)
    (hw0 : 0 ≤ width) (hw1 : width ≤ 255) (ht0 : 0 ≤ times) (ht1 : times ≤ 255) (hn0 : 0 ≤ now) (hn1 : now ≤ 65535) (hm : U8At w w.heap.size A' more) (hmlen : (more.length : Int) ≤ 9223372036854775807) :
    Calls Try.prog 6 #[.int .u8 width, .slice A l.length c, .int .u8 times, .int .u16 now, .slice A' more.length c'] w fun e w' => e = .returned (.bool true) ∧ Below w.heap.size w w' := by
  have t1 : width.tmod 20 = width % 20 := Int.tmod_eq_emod_of_nonneg hw0
  have t2 : times.tmod 4 = times % 4 := Int.tmod_eq_emod_of_nonneg ht0
  have x1 : 1 ≤ 1 + width % 20 ∧ 1 + width % 20 ≤ 20 := by omega
  have x2 : 1 ≤ 1 + times % 4 ∧ 1 + times % 4 ≤ 4 := by omega
  have x3 : 1 ≤ (1 + width % 20) * (1 + times % 4) ∧ (1 + width % 20) * (1 + times % 4) ≤ 80 := by
    have h1 := Int.mul_le_mul x1.1 x2.1 (by omega) (by omega)
    have h2 := Int.mul_le_mul x1.2 x2.2 (by omega) (by omega)
    omega
  by_cases g1 : longB l = true
  · go_enter Try.func6, Try.ntmps6
    go_wp2_with fail
    refine (long_any A c l _ hl hlen).mono ?_
    rintro r w1 ⟨rfl, hb1⟩
    go_wp2_with fail
    refine (awake_any _).mono ?_
    rintro r w2 ⟨rfl, hb2⟩
    go_wp2
    go_ret
    exact ⟨rfl, hb1.trans (hb2.mono hb1.size)⟩
  · have g1' : longB l = false := by simpa using g1
    have hno := Lib.hid (longB_no g1').1
    clear g1
    by_cases g2 : 20 < (more.length : Int)
    · go_enter Try.func6, Try.ntmps6
      go_wp2_with fail
      refine (long_any A c l _ hl hlen).mono ?_
      rintro r w1 ⟨rfl, hb1⟩
      go_wp2_with fail
      refine (awake_any _).mono ?_
      rintro r w2 ⟨rfl, hb2⟩
      go_wp2
      go_ret
      exact ⟨rfl, hb1.trans (hb2.mono hb1.size)⟩
    · go_enter Try.func6, Try.ntmps6
      go_wp2_with fail
      refine (long_any A c l _ hl hlen).mono ?_
      rintro r w1 ⟨rfl, hb1⟩
      go_wp2_with fail
      generalize (1 + width % 20) * (1 + times % 4) = span at *
      generalize 1 + width % 20 = wd at *
      have hwo : widthOf wd = wd := by unfold widthOf; omega
      have hq := fill_any wd A c l w1 ((hl.below hb1).more hb1.size) (by have := hno.out; omega)
      rw [hwo] at hq
      have HQ := Lib.hid hq
      clear hq hwo
      refine HQ.out.mono ?_
      rintro r w2 ⟨pb, F, rfl, hO, hF, hb2⟩
      have HO := Lib.hid hO
      have HF := Lib.hid hF
      clear hO hF HQ
      go_wp2_with fail
      refine (rof_any pb F wd (l.filter rightB) span now 1 w2 HO.out).mono ?_
      rintro r w3 ⟨A3, c3, rs, rfl, hrs, hown, hb3, hlen3⟩
      have hrl : (rs.length : Int) ≤ 60 := by
        have h1 := List.length_filter_le rightB l
        have := hno.out
        omega
      have hhl : ((l.filter rightB).length : Int) ≤ 60 := by
        have h1 := List.length_filter_le rightB l
        have := hno.out
        omega
      have hz2 := hb1.size
      have hz3 := hb2.size
      have HB : Hid (Below w.heap.size w w3) := Lib.hid ((hb1.trans (hb2.mono hb1.size)).trans (hb3.mono (by omega)))
      have hO3 := HO.out.below hb3
      have hFr : ∀ j, F j → w.heap.size ≤ j ∧ (Value.slice A3 rs.length c3).ownBlock ≠ some j := fun j hj => ⟨by have := HF.out j hj; omega, fun e => by have := (hown.lt j e).1; have := HO.out.lt j hj; omega⟩
      have HFr := Lib.hid hFr
      have HRS := Lib.hid hrs
      have HOW := Lib.hid (own_base hown (show w.heap.size ≤ w2.heap.size by omega))
      have HO3 := Lib.hid hO3
      have HHL := Lib.hid hhl
      clear hown hrs hlen3 hb1 hb2 hb3 HO HF hO3 hFr hhl
      have tn : now.tmod wd = now % wd := Int.tmod_eq_emod_of_nonneg hn0
      have hbd := begB_bd x1.1 hn0
      have hwr : IntKind.i64.wrap (now - now % wd) = begB wd now := IntWalk.i64_in _ (by unfold begB at hbd; omega)
      have hzw : ¬ wd = 0 := by omega
      go_wp2_with fail
      generalize hbb : begB wd now = bg at *
      have HBB := Lib.hid hbb
      clear hbb hwr
      go_loopg [55] more.length (fun rest i wr => ∃ (k : Nat) (F' : Nat → Prop) (ext : List AddD), i = .int .i64 k ∧ Hid (k + rest = more.length) ∧ PaneObj wr pb F' wd (l.filter rightB ++ ext) ∧ Hid (∀ a ∈ ext, bg ≤ a.at_) ∧ Hid (ext.length = 2 * k) ∧ Hid (∀ j, F' j → w.heap.size ≤ j ∧ (Value.slice A3 rs.length c3).ownBlock ≠ some j) ∧
        Hid (wr.ownsRow w.heap.size 34 3 (.slice A3 rs.length c3) rs.length (rs.flatMap riseEnc)) ∧ Below w.heap.size w wr)
      case atStart => exact ⟨0, F, [], rfl, Lib.hid (by simp), by rw [List.append_nil]; exact HO3.out, Lib.hid (by simp), Lib.hid rfl, HFr, HOW, HB.out⟩
      case round =>
        clear HB HFr HOW
        obtain ⟨k, F', ext, rfl, HK, hO, HX, HXL, HF, HOW, hb⟩ := hrel
        by_cases hk : (k : Int) < (more.length : Int)
        · have hkl : k < more.length := by omega
          obtain ⟨b, o, rfl, hbl, hcell⟩ := (hm.1.below hb).one hkl
          have hmv := hm.2 _ (List.getElem_mem hkl)
          generalize more[k] = m at *
          have hcnt : ((l.filter rightB ++ ext).length : Int) < 1048574 := by rw [List.length_append]; have := HXL.out; have := HHL.out; omega
          have ha1 : addB aS (bg + k) m (l.filter rightB ++ ext).length = true := by
            unfold addB
            simp only [Bool.and_eq_true, decide_eq_true_eq]
            refine ⟨⟨⟨⟨⟨⟨by decide, by decide⟩, by omega⟩, by omega⟩, by omega⟩, by omega⟩, by omega⟩
          have hq1 := padd_any pb F' wd (l.filter rightB ++ ext) aS (bg + k) m wr hO
          rw [ha1] at hq1
          have ha2 : addB newS (bg + m) 7 (l.filter rightB ++ ext ++ [(⟨aS, bg + k, m⟩ : AddD)]).length = true := by
            unfold addB
            simp only [Bool.and_eq_true, decide_eq_true_eq, List.length_append, List.length_cons, List.length_nil]
            rw [List.length_append] at hcnt
            refine ⟨⟨⟨⟨⟨⟨by decide, by decide⟩, by omega⟩, by omega⟩, by omega⟩, by omega⟩, by omega⟩
          have HQ1 := Lib.hid hq1
          have HA2 := Lib.hid ha2
          clear hq1 ha1 ha2 hcnt hO
          go_wp2_with fail
          refine HQ1.out.mono ?_
          rintro r w4 ⟨rfl, F4, hO4, hK4, hF4⟩
          rw [if_pos rfl] at hO4
          have hq2 := padd_any pb F4 wd (l.filter rightB ++ ext ++ [(⟨aS, bg + k, m⟩ : AddD)]) newS (bg + m) 7 w4 hO4
          rw [HA2.out] at hq2
          have HQ2 := Lib.hid hq2
          have hOW4 := hK4.own HOW.out (fun j e hf => (HF.out j hf).2 e)
          have hF4' : ∀ j, F4 j → w.heap.size ≤ j ∧ (Value.slice A3 rs.length c3).ownBlock ≠ some j := fun j hj => by
            rcases hF4 j hj with h1 | h1
            · exact HF.out j h1
            · exact ⟨by have := hb.size; omega, fun e => by have := (HOW.out.lt j e).2; omega⟩
          have hb4 : Below w.heap.size w w4 := hb.trans (hK4.toBelow hb.size (fun j hj => (HF.out j hj).1))
          have HOW4 := Lib.hid hOW4
          have HF4 := Lib.hid hF4'
          have HB4 := Lib.hid hb4
          clear hq2 hOW4 hF4' hb4 hO4 hK4 hF4 HQ1
          go_wp2_with fail
          refine HQ2.out.mono ?_
          rintro r w5 ⟨rfl, F5, hO5, hK5, hF5⟩
          rw [if_pos rfl] at hO5
          have hOW5 := hK5.own HOW4.out (fun j e hf => (HF4.out j hf).2 e)
          have hF5' : ∀ j, F5 j → w.heap.size ≤ j ∧ (Value.slice A3 rs.length c3).ownBlock ≠ some j := fun j hj => by
            rcases hF5 j hj with h1 | h1
            · exact HF4.out j h1
            · exact ⟨by have := HB4.out.size; omega, fun e => by have := (HOW4.out.lt j e).2; omega⟩
          have hb5 : Below w.heap.size w w5 := HB4.out.trans (hK5.toBelow HB4.out.size (fun j hj => (HF4.out j hj).1))
          have HOW5 := Lib.hid hOW5
          have HF5 := Lib.hid hF5'
          have HB5 := Lib.hid hb5
          have HO5 : Hid (PaneObj w5 pb F5 wd (l.filter rightB ++ (ext ++ [⟨aS, bg + k, m⟩, ⟨newS, bg + m, 7⟩]))) := Lib.hid (by
            have := hO5
            simp only [List.append_assoc, List.cons_append, List.nil_append] at this ⊢
            exact this)
          clear hOW5 hF5' hb5 hO5 hK5 hF5 HQ2
          go_wp2
          go_roundg (gk - 1)
          case measure => have := HK.out; omega
          case rel => exact ⟨k + 1, F5, _, by go_num, Lib.hid (by have := HK.out; omega), HO5.out, Lib.hid (by
            intro a ha
            rw [List.mem_append] at ha
            rcases ha with ha | ha
            · exact HX.out a ha
            · simp at ha
              rcases ha with rfl | rfl
              · show bg ≤ bg + k; omega
              · show bg ≤ bg + m; omega), Lib.hid (by rw [List.length_append, HXL.out]; rfl), HF5, HOW5, HB5.out⟩
        · have HO := Lib.hid hO
          have q := rof_any pb F' wd (l.filter rightB ++ ext) span now 1 wr hO
          have Q := Lib.hid q
          have HB4 := Lib.hid hb
          have HW : Hid (1 ≤ wd) := Lib.hid x1.1
          clear q hO hb
          go_wp2_with fail
          refine Q.out.mono ?_
          rintro r w6 ⟨A6, c6, rs6, rfl, hrs6, hown6, hb6, hlen6⟩
          have e6 : rs6 = rs := by
            have h1 := rises_ext HW.out (by rw [HBB.out]; exact HX.out) hrs6
            exact rises_same HO3.out HRS.out h1
          subst e6
          have q := rsame_any A6 A3 c6 c3 rs6 w6 (Reads.of_own hown6) (((Reads.of_own HOW.out).below hb6).more hb6.size) (by omega)
          have Q2 := Lib.hid q
          have HB6 : Hid (Below w.heap.size w w6) := Lib.hid (HB4.out.trans (hb6.mono HB4.out.size))
          clear q hown6 hrs6 Q
          go_wp2_with fail
          refine Q2.out.mono ?_
          rintro r w7 ⟨rfl, hb7⟩
          go_wp2_with fail
          refine (awake_any _).mono ?_
          rintro r w8 ⟨rfl, hb8⟩
          go_wp2
          go_ret
          exact ⟨rfl, (HB6.out.trans (hb7.mono HB6.out.size)).trans (hb8.mono (by have := HB6.out.size; have := hb7.size; omega))⟩
end Go.Proofs.Ytbfjknpljkmgjaa
