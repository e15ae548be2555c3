/- The walk of CacheFresh. -/
import Derived.Test.YtjfknojkiiileaaCacH
namespace Go.Proofs.Ytjfknojkiiileaa
open Go.ChangeShapes Go.WideShapes Go.ChangeAt Go.RowKit
set_option linter.unusedVariables false
set_option linter.unusedSimpArgs false

/-- What stands in memory ahead of deed k. -/
structure FrAt (w : World) (cb : Nat) (sz : Int) (k : Int) (V : CView) (us : Int) (dA : Option Addr) (deps : List ByteArray) (oA : Option Addr) (oc : Nat) (others : List ByteArray) (F : Nat → Prop) (wr : World) : Prop where
  cac : CacO cb sz us V wr F
  base : ∀ k, F k → w.heap.size ≤ k
  dps : StrsAt w w.heap.size dA deps
  oth : StrsAt wr wr.heap.size oA others
  ocap : others.length ≤ oc
  obase : BaseS oA oc
  oap : ∀ b o sp, oA = some ⟨b, o, sp⟩ → ¬ F b
  olt : ∀ b o sp, oA = some ⟨b, o, sp⟩ → b < wr.heap.size
  us0 : 0 ≤ us
  us1 : us ≤ k
  vl : (V.length : Int) ≤ k
  ol : (others.length : Int) ≤ k
  dl : (deps.length : Int) ≤ 10
  vd : ∀ p ∈ V, (p.2.deps.length : Int) ≤ 10
  below : Below w.heap.size w wr

section
variable {w : World} {cb : Nat} {sz : Int} {k : Int} {V : CView} {us : Int} {dA : Option Addr} {deps : List ByteArray} {oA : Option Addr} {oc : Nat} {others : List ByteArray} {F : Nat → Prop} {wr : World}

theorem FrAt.grow (h : FrAt w cb sz k V us dA deps oA oc others F wr) {w' : World} (hb : Below wr.heap.size wr w') : FrAt w cb sz k V us dA deps oA oc others F w' :=
  { h with
    cac := (CacO.own cb sz us V).below h.cac hb
    oth := (h.oth.below hb).more hb.size
    olt := fun b o sp e => Nat.lt_of_lt_of_le (h.olt b o sp e) hb.size
    below := h.below.trans (hb.mono h.below.size) }

/-- The cache was turned; the others lie as they did. -/
theorem FrAt.turn (h : FrAt w cb sz k V us dA deps oA oc others F wr) {w' : World} {F' : Nat → Prop} {V' : CView} {us' : Int} (hu : Upd F wr F' w') (hc : CacO cb sz us' V' w' F') (hus : us ≤ us' ∧ us' ≤ us + 1) (hvl : V'.length ≤ V.length + 1) (hvd : ∀ p ∈ V', (p.2.deps.length : Int) ≤ 10) :
    FrAt w cb sz (k + 1) V' us' dA deps oA oc others F' w' where
  cac := hc
  base := hu.base h.below.size h.base
  dps := h.dps
  oth := (h.oth.keep hu.keeps (Nat.le_refl _) h.oap).more hu.keeps.size
  ocap := h.ocap
  obase := h.obase
  oap := fun b o sp e hb => by
    rcases hu.foot b hb with h1 | h1
    · exact h.oap b o sp e h1
    · have := h.olt b o sp e; omega
  olt := fun b o sp e => Nat.lt_of_lt_of_le (h.olt b o sp e) hu.keeps.size
  us0 := by have := h.us0; omega
  us1 := by have := h.us1; omega
  vl := by have := h.vl; omega
  ol := by have := h.ol; omega
  dl := h.dl
  vd := hvd
  below := hu.belowB h.below (Nat.le_refl _) h.base

theorem putV_pos (l : List ByteArray) (x : ByteArray) : 0 < (putV l x).length := List.length_pos_of_mem (mem_putV.2 (.inr rfl : x ∈ l ∨ x = x))

/-- One more of the others. -/
theorem FrAt.other (h : FrAt w cb sz k V us dA deps oA oc others F wr) (hol : (others.length : Int) + 1 ≤ k) {x : ByteArray} {w' : World} {A' : Option Addr} {c' : Nat} (hst : StrsAt w' w'.heap.size A' (putV others x)) (hcap : (putV others x).length ≤ c') (hbs : BaseS A' c') (hlie : A' = oA ∨ ∀ b o sp, A' = some ⟨b, o, sp⟩ → wr.heap.size ≤ b) (hb : Below wr.heap.size wr w') :
    FrAt w cb sz k V us dA deps A' c' (putV others x) F w' :=
  have hg := h.grow hb
  { hg with
    oth := hst
    ocap := hcap
    obase := hbs
    oap := fun b o sp e hF => by
      rcases hlie with h1 | h1
      · exact h.oap b o sp (h1 ▸ e) hF
      · have := h1 b o sp e
        have := (CacO.own cb sz us V).lt h.cac b hF
        omega
    olt := fun b o sp e => by
      obtain ⟨b', o', e', hlt, _⟩ := hst.1.2 (putV_pos _ _)
      rw [e] at e'
      injection e' with e'
      injection e' with e1
      subst e1
      exact hlt
    ol := by have := putV_len others x; omega }

/-- None of the others. -/
theorem FrAt.none_ (h : FrAt w cb sz k V us dA deps oA oc others F wr) {dA' : Option Addr} {deps' : List ByteArray} (hd : StrsAt w w.heap.size dA' deps') (hdl : (deps'.length : Int) ≤ 10) : FrAt w cb sz k V us dA' deps' none 0 [] F wr :=
  { h with
    dps := hd
    oth := StrsAt.nil _ _ _
    ocap := by simp
    obase := .inl ⟨rfl, rfl⟩
    oap := fun _ _ _ e => by cases e
    olt := fun _ _ _ e => by cases e
    ol := by have := h.ol; simp; omega
    dl := hdl }

theorem FrAt.next (h : FrAt w cb sz k V us dA deps oA oc others F wr) : FrAt w cb sz (k + 1) V us dA deps oA oc others F wr :=
  { h with us1 := by have := h.us1; omega, vl := by have := h.vl; omega, ol := by have := h.ol; omega }

theorem COut.sub {V1 V' : CView} (h : COut sz V1 V') : ∀ p ∈ V', p ∈ V1 := by
  rcases h with ⟨_, rfl⟩ | ⟨_, o, e, _, _, rfl⟩
  · exact fun p hp => hp
  · exact fun p hp => (mem_mdel.1 hp).1
theorem FrAt.put (h : FrAt w cb sz k V us dA deps oA oc others F wr) {w' : World} {F' : Nat → Prop} {V' : CView} {key val : ByteArray} {ds : List ByteArray} (hC : COut sz (mput V key ⟨val, ds, us + 1⟩) V') (hc : CacO cb sz (us + 1) V' w' F') (hu : Upd F wr F' w') (hds : (ds.length : Int) ≤ 10) : FrAt w cb sz (k + 1) V' (us + 1) dA deps oA oc others F' w' := by
  refine h.turn hu hc ⟨by omega, by omega⟩ (Nat.le_trans hC.len (mput_len _ _ _)) (fun p hp => ?_)
  rcases mem_mput.1 (hC.sub p hp) with ⟨h1, _⟩ | rfl
  · exact h.vd p h1
  · exact hds
theorem FrAt.use (h : FrAt w cb sz k V us dA deps oA oc others F wr) {w' : World} {F' : Nat → Prop} {key : ByteArray} (hc : CacO cb sz (us + 1) (useV V key (us + 1)) w' F') (hu : Upd F wr F' w') : FrAt w cb sz (k + 1) (useV V key (us + 1)) (us + 1) dA deps oA oc others F' w' := by
  refine h.turn hu hc ⟨by omega, by omega⟩ (by simp [useV]) (fun p hp => ?_)
  obtain ⟨p0, hp0, _, _, e, _⟩ := mem_useV hp
  rw [e]
  exact h.vd p0 hp0
theorem FrAt.touch (h : FrAt w cb sz k V us dA deps oA oc others F wr) {w' : World} {F' : Nat → Prop} {ds : List ByteArray} (hc : CacO cb sz us (touchV V ds) w' F') (hu : Upd F wr F' w') : FrAt w cb sz (k + 1) (touchV V ds) us dA deps oA oc others F' w' :=
  h.turn hu hc ⟨by omega, by omega⟩ (by have := List.length_filter_le (fun q : ByteArray × PEnt => !(q.2.deps.any fun d => memB d ds)) V; unfold touchV; omega) (fun p hp => h.vd p (List.mem_filter.1 hp).1)
/-- What lies behind the cache's blocks stays. -/
theorem FrAt.cell (h : FrAt w cb sz k V us dA deps oA oc others F wr) {wd w' : World} {F' : Nat → Prop} (hu : Upd F wd F' w') (hz : wr.heap.size < wd.heap.size) {j : Nat} {v : Value} (hv : wd.cell? ⟨wr.heap.size, j, none⟩ = some v) : w'.cell? ⟨wr.heap.size, j, none⟩ = some v :=
  (hu.keeps.cell (p := ⟨wr.heap.size, j, none⟩) hz (fun hF => Nat.lt_irrefl _ ((CacO.own cb sz us V).lt h.cac _ hF))).trans hv
end

/-- What a Get does, whatever is there. -/
theorem get_fr {w wr wd w5 : World} {cb : Nat} {sz k us : Int} {V : CView} {key value xk : ByteArray} {put touched : Bool} {dA oA : Option Addr} {deps others : List ByteArray} {oc : Nat} {F : Nat → Prop} {e : Ending}
    (h0 : FrAt w cb sz k V us dA deps oA oc others F wr) (h : FrAt w cb sz k V us dA deps oA oc others F wd) (hz : wr.heap.size < wd.heap.size) (hi : FrInv sz us V key value put touched deps others) (hp : CGetO cb sz us V xk wd F e w5) :
    ∃ a b, e = .returned (.tuple #[.string a, .bool b]) ∧ ∃ V5 us5 F5, FrAt w cb sz (k + 1) V5 us5 dA deps oA oc others F5 w5 ∧ (xk = key → FrInv sz us5 V5 key value put touched deps others) ∧ (xk ≠ key → FrInv sz us5 V5 key value put touched deps (putV others xk)) ∧
      ∀ j v, wd.cell? ⟨wr.heap.size, j, none⟩ = some v → w5.cell? ⟨wr.heap.size, j, none⟩ = some v := by
  unfold CGetO at hp
  cases hg : mget V xk with
  | none =>
    rw [hg] at hp
    obtain ⟨rfl, rfl⟩ := hp
    exact ⟨_, _, rfl, V, us, F, h.next, fun _ => hi, fun _ => hi.more xk, fun j v hv => hv⟩
  | some q =>
    rw [hg] at hp
    obtain ⟨rfl, F5, hc5, hu5⟩ := hp
    exact ⟨_, _, rfl, _, _, F5, h.use hc5 hu5, fun e => by subst e; exact hi.getSelf, fun e => hi.getOther xk e, fun j v hv => h0.cell hu5 hz hv⟩

theorem touch_any_comm (deps ds : List ByteArray) : (deps.any fun d => memB d ds) = ds.any (fun d => memB d deps) := by
  rw [Bool.eq_iff_iff, List.any_eq_true, List.any_eq_true]
  constructor
  · rintro ⟨x, hx, h⟩; exact ⟨x, memB_iff.1 h, memB_iff.2 hx⟩
  · rintro ⟨x, hx, h⟩; exact ⟨x, memB_iff.1 h, memB_iff.2 hx⟩

/-- The loop's relation. -/
def FrRel (w : World) (cb : Nat) (sz : Int) (key : ByteArray) (l : List CDeed) (rest : Nat) (vv pp tt dd oo ii : Value) (wr : World) : Prop :=
  ∃ (k : Nat) (V : CView) (us : Int) (value : ByteArray) (put touched : Bool) (dA : Option Addr) (dc : Nat) (deps : List ByteArray) (oA : Option Addr) (oc : Nat) (others : List ByteArray) (F : Nat → Prop),
    vv = .string value ∧ pp = .bool put ∧ tt = .bool touched ∧ dd = .slice dA deps.length dc ∧ oo = .slice oA others.length oc ∧ ii = .int .i64 k ∧ k + rest = l.length ∧ FrInv sz us V key value put touched deps others ∧ FrAt w cb sz k V us dA deps oA oc others F wr

/-- The last answer is right. -/
theorem fresh_end {sz us : Int} {V : CView} {key value : ByteArray} {put touched : Bool} {deps others : List ByteArray} (h : FrInv sz us V key value put touched deps others) :
    (∀ q, mget V key = some q → put = true ∧ touched = false ∧ q.val = value) ∧ (mget V key = none → put = false ∨ touched = true ∨ sz ≤ (others.length : Int)) := by
  refine ⟨fun q hq => ⟨(h.got q hq).1, (h.got q hq).2.1, (h.got q hq).2.2.1⟩, fun hn => ?_⟩
  cases hp : put with
  | false => exact .inl rfl
  | true =>
    cases ht : touched with
    | true => exact .inr (.inl rfl)
    | false => exact .inr (.inr (h.gone hp ht hn))

set_option maxRecDepth 20000 in
set_option maxHeartbeats 8000000 in
theorem cacheFresh_walk (sz : Int) (A : Option Addr) (c : Nat) (l : List CDeed) (key : ByteArray) (w : World) (h : CDeedsAt w w.heap.size A l) (hl : (l.length : Int) ≤ 9223372036854775807) (hk : ∀ d ∈ l, d.key.size ≤ maxLen ∧ d.val.size ≤ maxLen ∧ d.deps.l.length ≤ maxLen) (hkind : ∀ d ∈ l, 0 ≤ d.kind ∧ d.kind ≤ 255) (hkey : key.size ≤ maxLen) :
    Calls Try.prog 3 #[.int .i64 sz, .slice A l.length c, .string key] w fun e w' => e = .returned (.bool true) ∧ Below w.heap.size w w' := by
  have hkey' : key.size ≤ 9223372036854775807 := hkey
  have HKS := Lib.hid hk
  have HKD := Lib.hid hkind
  clear hk hkind
  by_cases hh : ¬ CHeavy l ∧ (key.size : Int) ≤ 100 ∧ 1 ≤ sz ∧ sz ≤ 4096
  · obtain ⟨hnh, hk100, hs1, hs2⟩ := hh
    have HL60 : (l.length : Int) ≤ 60 := by
      have : ¬ 60 < (l.length : Int) := fun h => hnh (.inl h)
      omega
    have HDN : Hid (∀ d ∈ l, (d.deps.l.length : Int) ≤ 10) := Lib.hid (fun d hd => by
      have : ¬ 10 < (d.deps.l.length : Int) := fun h => hnh (.inr ⟨d, hd, .inr (.inr (.inl h))⟩)
      omega)
    have HNH := Lib.hid hnh
    have HSZ : Hid (sizeOf' sz = sz) := Lib.hid (by unfold sizeOf'; omega)
    clear hnh
    have g1 : ¬ 100 < (key.size : Int) := by omega
    have g2 : ¬ sz < 1 := by omega
    have g3 : ¬ 4096 < sz := by omega
    go_enter Try.func3, Try.ntmps3
    go_wp2_with fail
    refine (clives_any _).mono ?_
    rintro e w1 ⟨rfl, hb1⟩
    have z1 := hb1.size
    go_wp2_with fail
    refine (cheavy_any A w.heap.size c l w1 (h.below hb1) hl HKS.out).mono ?_
    rintro e w1' ⟨⟨b, rfl, hb⟩, rfl⟩
    obtain rfl : b = false := by
      cases b with
      | false => rfl
      | true => exact absurd (hb.1 rfl) HNH.out
    clear hb
    go_wp2_with fail
    refine (cnew_o sz _).mono ?_
    rintro e w2 ⟨cb, F2, rfl, hc2, hF2, hb2⟩
    rw [HSZ.out] at hc2
    have z2 := hb2.size
    have hbw2 : Below w.heap.size w w2 := hb1.trans (hb2.mono z1)
    clear hb1 hb2 HNH HSZ
    go_wp2_with fail
    go_loopg [8, 9, 10, 11, 12, 13] l.length (fun rest vv pp tt dd oo ii wr => FrRel w cb sz key l rest vv pp tt dd oo ii wr)
    case atStart =>
      refine ⟨0, [], 0, ByteArray.empty, false, false, some ⟨w2.heap.size, 0, none⟩, 0, [], some ⟨w2.heap.size + 1, 0, none⟩, 0, [], F2, rfl, rfl, rfl, rfl, rfl, rfl, by simp, FrInv.init _ _, ?_⟩
      have hb3 : Below w2.heap.size w2 ((w2.alloc (.cells #[] 9)).alloc (.cells #[] 9)) := ((Below.refl _ _).alloc (by simp) _).alloc (by simp) _
      refine ⟨(CacO.own _ _ _ _).below hc2 hb3, fun k hk => by have := hF2 k hk; omega, StrsAt.nil _ _ _, StrsAt.nil _ _ _, by simp, .inr ⟨_, rfl⟩, ?_, ?_, by omega, by simp, by simp, by simp, by simp, by simp, hbw2.trans (hb3.mono (by omega))⟩
      · intro b o sp e hF
        injection e with e
        injection e with e1
        have := (CacO.own _ _ _ _).lt hc2 b hF
        omega
      · intro b o sp e
        injection e with e
        injection e with e1
        simp
        omega
    case round =>
      clear hc2 hF2 hbw2 z2
      obtain ⟨k, V, us, value, put, touched, dA, dc, deps, oA, oc, others, F, rfl, rfl, rfl, rfl, rfl, rfl, hkr, hi, hf⟩ := hrel
      have HI := Lib.hid hi
      clear hi
      have HK := Lib.hid hkr
      clear hkr
      have q1 := hf.us1
      have q2 := hf.us0
      have q3 := hf.vl
      have q4 := hf.ol
      have q5 := hf.dl
      have HF := Lib.hid hf
      have hkl' : (k : Int) ≤ (l.length : Int) := by have := HK.out; omega
      by_cases hk : (k : Int) < (l.length : Int)
      · have hkl : k < l.length := by omega
        obtain ⟨b, o, rfl, hbl, c0, c1, c2, c3⟩ := (h.below hf.below).one hkl
        have hsz := HKS.out _ (List.getElem_mem hkl)
        have hkd := HKD.out _ (List.getElem_mem hkl)
        have hdn := HDN.out _ (List.getElem_mem hkl)
        have hds := h.2 _ (List.getElem_mem hkl)
        generalize l[k] = x at *
        obtain ⟨kind, xk, xv, xd⟩ := x
        obtain ⟨xA, xc, xl⟩ := xd
        simp only at c0 c1 c2 c3 hsz hkd hdn hds
        obtain ⟨z5, z6, z7⟩ := hsz
        clear hf
        have hcases : (kind = 0 ∨ kind = 1) ∨ (kind = 2 ∨ kind = 3) ∨ kind = 4 ∨ (¬ kind = 0 ∧ ¬ kind = 1 ∧ ¬ kind = 2 ∧ ¬ kind = 3 ∧ ¬ kind = 4) := by omega
        have hbd : Below wr.heap.size wr (wr.alloc (.cells #[.int .u8 kind, .string xk, .string xv, .slice xA xl.length xc] 29)) := (Below.refl _ _).alloc (Nat.le_refl _) _
        have HB := Lib.hid hbd
        clear hbd
        rcases hcases with h01 | h23 | h4 | hno
        · have hwd := HF.out.grow HB.out
          have hdsd : StrsAt _ _ xA xl := (hds.below hwd.below).more hwd.below.size
          have HDD := Lib.hid hdsd
          have HWD := Lib.hid hwd
          clear hwd hdsd
          by_cases he : xk = key
          · have HE := Lib.hid he
            have heq : (xk.toList == key.toList) = true := by rw [he]; simp
            clear he
            rcases h01 with rfl | rfl
            all_goals
              go_wp2_with fail
              refine (cput_o HWD.out.cac q2 (by omega) xk xv z5 z6 xA xc xl HDD.out (by omega) (by omega) (by omega) (by omega)).mono ?_
              rintro e w5 ⟨rfl, V5, F5, hC5, hc5, hu5⟩
              have hf5 := (HWD.out.put hC5 hc5 hu5 hdn).none_ hds hdn
              rw [HE.out] at hC5
              have hi5 := HI.out.putSelf hs1 xv xl hC5
              have d1 : w5.cell? ⟨wr.heap.size, 1, none⟩ = some (.string xk) := HF.out.cell (j := 1) hu5 (by simp) (by simp)
              have d2 : w5.cell? ⟨wr.heap.size, 2, none⟩ = some (.string xv) := HF.out.cell (j := 2) hu5 (by simp) (by simp)
              have d3 : w5.cell? ⟨wr.heap.size, 3, none⟩ = some (.slice xA xl.length xc) := HF.out.cell (j := 3) hu5 (by simp) (by simp)
              have HF5 := Lib.hid hf5
              have HI5 := Lib.hid hi5
              clear hf5 hi5 hC5 hc5 hu5
              go_wp2
              go_roundg (gk - 1)
              case measure => have := HK.out; omega
              case rel => exact ⟨k + 1, V5, us + 1, xv, true, false, xA, xc, xl, none, 0, [], F5, rfl, rfl, rfl, rfl, rfl, by go_num, by have := HK.out; omega, HI5.out, by simpa using HF5.out⟩
          · have HE := Lib.hid he
            have heq : (xk.toList == key.toList) = false := by rw [str_beq]; simp [he]
            clear he
            rcases h01 with rfl | rfl
            all_goals
              go_wp2_with fail
              refine (cput_o HWD.out.cac q2 (by omega) xk xv z5 z6 xA xc xl HDD.out (by omega) (by omega) (by omega) (by omega)).mono ?_
              rintro e w5 ⟨rfl, V5, F5, hC5, hc5, hu5⟩
              have hf5 := HWD.out.put hC5 hc5 hu5 hdn
              have hi5 := HI.out.putOther xk HE.out xv xl hC5
              have d1 : w5.cell? ⟨wr.heap.size, 1, none⟩ = some (.string xk) := HF.out.cell (j := 1) hu5 (by simp) (by simp)
              have HF5 := Lib.hid hf5
              have HI5 := Lib.hid hi5
              clear hf5 hi5 hC5 hc5 hu5
              go_wp2_with fail
              refine (put8_any oA w5.heap.size oc others xk w5 HF5.out.oth (Nat.le_refl _) (by omega) z5 HF5.out.ocap HF5.out.obase).mono ?_
              rintro e w6 ⟨A', c', rfl, hst, hcap, hbs, hlie, hb6⟩
              have HF6 := Lib.hid (HF5.out.other (by omega) hst hcap hbs hlie hb6)
              clear hst hcap hbs hlie hb6
              go_wp2
              go_roundg (gk - 1)
              case measure => have := HK.out; omega
              case rel => exact ⟨k + 1, V5, us + 1, value, put, touched, dA, dc, deps, A', c', putV others xk, F5, rfl, rfl, rfl, rfl, rfl, by go_num, by have := HK.out; omega, HI5.out, by simpa using HF6.out⟩
        · have hwd := HF.out.grow HB.out
          have HWD := Lib.hid hwd
          clear hwd
          by_cases he : xk = key
          · have HE := Lib.hid he
            have heq : (xk.toList == key.toList) = true := by rw [he]; simp
            have heq2 : (xk.toList != key.toList) = false := by rw [he]; simp
            clear he
            rcases h23 with rfl | rfl
            all_goals
              go_wp2_with fail
              refine (cget_o HWD.out.cac q2 (by omega) xk z5).mono ?_
              intro e w5 hp
              obtain ⟨ra, rb, rfl, V5, us5, F5, hf5, hi5, _, hcell⟩ := get_fr HF.out HWD.out (by simp) HI.out hp
              have d1 : w5.cell? ⟨wr.heap.size, 1, none⟩ = some (.string xk) := hcell 1 _ (by simp)
              have HF5 := Lib.hid hf5
              have HI5 := Lib.hid (hi5 HE.out)
              clear hp hf5 hi5 hcell
              go_wp2
              go_roundg (gk - 1)
              case measure => have := HK.out; omega
              case rel => exact ⟨k + 1, V5, us5, value, put, touched, dA, dc, deps, oA, oc, others, F5, rfl, rfl, rfl, rfl, rfl, by go_num, by have := HK.out; omega, HI5.out, by simpa using HF5.out⟩
          · have HE := Lib.hid he
            have heq : (xk.toList == key.toList) = false := by rw [str_beq]; simp [he]
            have heq2 : (xk.toList != key.toList) = true := by rw [bne, heq]; rfl
            clear he
            rcases h23 with rfl | rfl
            all_goals
              go_wp2_with fail
              refine (cget_o HWD.out.cac q2 (by omega) xk z5).mono ?_
              intro e w5 hp
              obtain ⟨ra, rb, rfl, V5, us5, F5, hf5, _, hi5, hcell⟩ := get_fr HF.out HWD.out (by simp) HI.out hp
              have d1 : w5.cell? ⟨wr.heap.size, 1, none⟩ = some (.string xk) := hcell 1 _ (by simp)
              have HF5 := Lib.hid hf5
              have HI5 := Lib.hid (hi5 HE.out)
              clear hp hf5 hi5 hcell
              go_wp2_with fail
              refine (put8_any oA w5.heap.size oc others xk w5 HF5.out.oth (Nat.le_refl _) (by omega) z5 HF5.out.ocap HF5.out.obase).mono ?_
              rintro e w6 ⟨A', c', rfl, hst, hcap, hbs, hlie, hb6⟩
              have HF6 := Lib.hid (HF5.out.other (by omega) hst hcap hbs hlie hb6)
              clear hst hcap hbs hlie hb6
              go_wp2
              go_roundg (gk - 1)
              case measure => have := HK.out; omega
              case rel => exact ⟨k + 1, V5, us5, value, put, touched, dA, dc, deps, A', c', putV others xk, F5, rfl, rfl, rfl, rfl, rfl, by go_num, by have := HK.out; omega, HI5.out, by simpa using HF6.out⟩
        · have hwd := HF.out.grow HB.out
          have hdsd : StrsAt _ _ xA xl := (hds.below hwd.below).more hwd.below.size
          have HDD := Lib.hid hdsd
          have HWD := Lib.hid hwd
          clear hwd hdsd
          subst h4
          go_wp2_with fail
          refine (ctouch_o HWD.out.cac xA xc xl HDD.out (by omega) (by omega) (fun p hp => by have := HF.out.vd p hp; omega)).mono ?_
          rintro e w5 ⟨rfl, F5, hc5, hu5⟩
          have hf5 := HWD.out.touch hc5 hu5
          have hi5 := HI.out.touch xl
          have d3 : w5.cell? ⟨wr.heap.size, 3, none⟩ = some (.slice xA xl.length xc) := HF.out.cell (j := 3) hu5 (by simp) (by simp)
          have hdd5 : StrsAt w5 w.heap.size dA deps := hf5.dps.below hf5.below
          have hxl5 : StrsAt w5 w.heap.size xA xl := hds.below hf5.below
          have HF5 := Lib.hid hf5
          rw [touch_any_comm] at hi5
          have HI5 := Lib.hid hi5
          have HGK := HK
          clear hf5 hi5 hc5 hu5 HK HWD HDD HB HF c0 c1 c2 c3
          go_wp2_with fail
          go_loopg [10, 15] xl.length (fun rest tt ii w6 => ∃ (m : Nat) (t : Bool), tt = .bool t ∧ ii = .int .i64 m ∧ Hid (m + rest = xl.length) ∧ Hid (t = (touched || (xl.take m).any fun d => memB d deps)) ∧ w5 = w6)
          case atStart => exact ⟨0, touched, rfl, rfl, Lib.hid (by simp), Lib.hid (by simp), rfl⟩
          case round =>
            obtain ⟨m, t, rfl, rfl, HM, HT, rfl⟩ := hrel
            by_cases hm : (m : Int) < (xl.length : Int)
            · have hml : m < xl.length := by omega
              obtain ⟨bx, ox, rfl, hblx, cx, hsx⟩ := hxl5.one hml
              have HS : Hid ((xl.take (m + 1)).any (fun d => memB d deps) = ((xl.take m).any (fun d => memB d deps) || memB xl[m] deps)) := Lib.hid (by rw [List.take_succ_eq_append_getElem hml, List.any_append]; simp)
              generalize xl[m] = y at *
              have HIN := Lib.hid (in8_any dA w.heap.size dc deps y w5 hdd5 (by omega))
              cases t with
              | true =>
                go_wp2
                go_roundg (xl.length - (m + 1))
                case measure => have := HM.out; omega
                case rel => exact ⟨m + 1, true, rfl, by go_num, Lib.hid (by have := HM.out; omega), Lib.hid (by rw [HS.out, ← Bool.or_assoc, ← HT.out]; rfl), rfl⟩
              | false =>
                go_wp2_with (go_at_call 13; refine HIN.out.mono ?_; rintro e w7 ⟨rfl, rfl⟩)
                go_roundg (xl.length - (m + 1))
                case measure => have := HM.out; omega
                case rel => exact ⟨m + 1, memB y deps, rfl, by go_num, Lib.hid (by have := HM.out; omega), Lib.hid (by rw [HS.out, ← Bool.or_assoc, ← HT.out]; rfl), rfl⟩
            · have HTE : Hid ((touched || xl.any fun d => memB d deps) = t) := Lib.hid (by rw [HT.out, List.take_of_length_le (by omega)])
              go_wp2
              go_roundg (l.length - (k + 1))
              case measure => have := HGK.out; omega
              case rel => exact ⟨k + 1, touchV V xl, us, value, put, t, dA, dc, deps, oA, oc, others, F5, rfl, rfl, rfl, rfl, rfl, by go_num, by have := HGK.out; omega, by rw [← HTE.out]; exact HI5.out, by simpa using HF5.out⟩
        · go_wp2
          go_roundg (gk - 1)
          case measure => have := HK.out; omega
          case rel => exact ⟨k + 1, V, us, value, put, touched, dA, dc, deps, oA, oc, others, F, rfl, rfl, rfl, rfl, rfl, by go_num, by have := HK.out; omega, HI.out, by simpa using (HF.out.grow HB.out).next⟩
      · have hend := fresh_end HI.out
        have hbw := hf.below
        cases hg : mget V key with
        | none =>
          have hq := hend.2 hg
          have HG := Lib.hid hg
          clear hend hg hf
          have hle : put = false ∨ touched = true ∨ sz ≤ (others.length : Int) := hq
          clear hq
          go_wp2_with fail
          refine (cget_o HF.out.cac q2 (by omega) key hkey).mono ?_
          intro e w5 hp
          unfold CGetO at hp
          rw [HG.out] at hp
          obtain ⟨rfl, rfl⟩ := hp
          rcases hle with rfl | rfl | hle
          · go_wp2
            go_ret
            exact ⟨rfl, hbw⟩
          · cases put
            all_goals
              go_wp2
              go_ret
              exact ⟨rfl, hbw⟩
          · cases put <;> cases touched
            all_goals
              go_wp2
              go_ret
              exact ⟨rfl, hbw⟩
        | some q =>
          obtain ⟨rfl, rfl, hv⟩ := hend.1 q hg
          have HG := Lib.hid hg
          clear hend hg hf
          go_wp2_with fail
          refine (cget_o HF.out.cac q2 (by omega) key hkey).mono ?_
          intro e w5 hp
          unfold CGetO at hp
          rw [HG.out] at hp
          obtain ⟨rfl, F', hc5, hu5⟩ := hp
          have hb5 := hu5.belowB hbw (Nat.le_refl _) HF.out.base
          rw [hv]
          have heq : (value.toList == value.toList) = true := by simp
          clear hc5 hu5 hv HG
          go_wp2
          go_ret
          exact ⟨rfl, hb5⟩
  · have hc : CHeavy l ∨ (¬ CHeavy l ∧ (100 < (key.size : Int) ∨ sz < 1 ∨ 4096 < sz)) := by
      rcases Classical.em (CHeavy l) with h1 | h1
      · exact .inl h1
      · refine .inr ⟨h1, ?_⟩
        refine Classical.byContradiction fun hn => hh ⟨h1, ?_⟩
        omega
    clear hh
    rcases hc with hv | ⟨hv, hg⟩
    · have HNH := Lib.hid hv
      clear hv
      go_enter Try.func3, Try.ntmps3
      go_wp2_with fail
      refine (clives_any _).mono ?_
      rintro e w1 ⟨rfl, hb1⟩
      go_wp2_with fail
      refine (cheavy_any A w.heap.size c l w1 (h.below hb1) hl HKS.out).mono ?_
      rintro e w1' ⟨⟨b, rfl, hb⟩, rfl⟩
      obtain rfl : b = true := hb.2 HNH.out
      go_wp2
      all_goals (go_ret; exact ⟨rfl, hb1⟩)
    · have HNH := Lib.hid hv
      clear hv
      rcases hg with hg | hg | hg
      all_goals
        go_enter Try.func3, Try.ntmps3
        go_wp2_with fail
        refine (clives_any _).mono ?_
        rintro e w1 ⟨rfl, hb1⟩
        go_wp2_with fail
        refine (cheavy_any A w.heap.size c l w1 (h.below hb1) hl HKS.out).mono ?_
        rintro e w1' ⟨⟨b, rfl, hb⟩, rfl⟩
        obtain rfl : b = false := by
          cases b with
          | false => rfl
          | true => exact absurd (hb.1 rfl) HNH.out
        clear hb
        go_wp2
        all_goals
          first
            | (go_ret; exact ⟨rfl, hb1⟩)
            | (exfalso; omega)
end Go.Proofs.Ytjfknojkiiileaa
