/- The reference's heavy in memory; its cut, Low, Add, Merge (ciceroneref14). -/
import Derived.Test.YtpjaolablkcpmaaHvR
namespace Go.Proofs.Ytpjaolablkcpmaa
open Go.ChangeShapes Go.WideShapes Go.ChangeAt Go.RowKit Go.Shelf Go.Lib Go.Sort Go.Proofs
set_option linter.unusedVariables false
set_option linter.unusedSimpArgs false

theorem five_set {w : World} {hb : Nat} {T : TypeId} {a0 a1 a2 a3 a4 : Value} (h : w.heap[hb]? = some (.cells #[a0, a1, a2, a3, a4] T (0, 0))) :
    (∀ v, (w.setCell ⟨hb, 1, none⟩ v).heap[hb]? = some (.cells #[a0, v, a2, a3, a4] T (0, 0))) ∧ (∀ v, (w.setCell ⟨hb, 2, none⟩ v).heap[hb]? = some (.cells #[a0, a1, v, a3, a4] T (0, 0))) ∧ (∀ v, (w.setCell ⟨hb, 3, none⟩ v).heap[hb]? = some (.cells #[a0, a1, a2, v, a4] T (0, 0))) ∧ (∀ v, (w.setCell ⟨hb, 4, none⟩ v).heap[hb]? = some (.cells #[a0, a1, a2, a3, v] T (0, 0))) := by
  refine ⟨fun v => ?_, fun v => ?_, fun v => ?_, fun v => ?_⟩ <;> simp [World.setCell, Array.getElem?_modify, h]
theorem five_cells {w : World} {hb : Nat} {T : TypeId} {a0 a1 a2 a3 a4 : Value} (h : w.heap[hb]? = some (.cells #[a0, a1, a2, a3, a4] T (0, 0))) :
    (w.cell? ⟨hb, 0, none⟩ = some a0 ∧ w.cell? ⟨hb, 1, none⟩ = some a1 ∧ w.cell? ⟨hb, 2, none⟩ = some a2 ∧ w.cell? ⟨hb, 3, none⟩ = some a3 ∧ w.cell? ⟨hb, 4, none⟩ = some a4) ∧ w.frozen? ⟨hb, 1, none⟩ = false ∧ w.frozen? ⟨hb, 2, none⟩ = false ∧ w.frozen? ⟨hb, 3, none⟩ = false ∧ w.frozen? ⟨hb, 4, none⟩ = false := by
  refine ⟨⟨?_, ?_, ?_, ?_, ?_⟩, ?_, ?_, ?_, ?_⟩ <;> simp [World.cell?, World.frozen?, h]

/-- The struct of the reference. -/
abbrev RfB (w : World) (xb : Nat) (room total slack added : Int) (A : Option Addr) (n c : Nat) : Prop :=
  w.heap[xb]? = some (.cells #[.int .i64 room, .slice A n c, .int .i64 total, .int .i64 slack, .int .i64 added] 49 (0, 0))
def rowF (A : Option Addr) (k : Nat) : Prop := ∃ o sp, A = some ⟨k, o, sp⟩
/-- A reference's heavy at xb, on the footprint F, is in the state s. -/
structure RfAt (w : World) (xb : Nat) (s : HvS) (A : Option Addr) (c : Nat) (cs : List CntV) : Prop where
  blk : RfB w xb s.room s.total s.slack s.added A cs.length c
  top : TopOf s.S cs
  row : CntsAt w w.heap.size A cs
  cap : cs.length ≤ c
  nil : A = none → c = 0
  inv : HvInv s
  out : ¬ rowF A xb
  low : ∀ k, rowF A k → k < w.heap.size
def RfO (w : World) (xb : Nat) (F : Nat → Prop) (s : HvS) : Prop := ∃ A c cs, RfAt w xb s A c cs ∧ F = (fun k => k = xb ∨ rowF A k)
theorem cnts_keep {w w' : World} {A : Option Addr} {cs : List CntV} {G : Nat → Prop} (h : CntsAt w w.heap.size A cs) (hk : Keeps G w w') (hd : ∀ k, rowF A k → ¬ G k) : CntsAt w' w'.heap.size A cs := by
  refine ⟨h.1, fun hn => ?_⟩
  obtain ⟨b, o, e, hb, hc⟩ := h.2 hn
  have hG : ¬ G b := hd b ⟨o, none, e⟩
  exact ⟨b, o, e, Nat.lt_of_lt_of_le hb hk.size, fun j u hu => (hk.cell (p := ⟨b, o + j, none⟩) hb hG).trans (hc j u hu)⟩
theorem RfO.own (xb : Nat) (s : HvS) : Own1 (fun w F => RfO w xb F s) where
  keep := by
    rintro w w' F G ⟨A, c, cs, h, rfl⟩ hk hd
    have hl : xb < w.heap.size := (Array.getElem?_eq_some_iff.1 h.blk).1
    exact ⟨A, c, cs, ⟨(hk.block xb hl (hd xb (.inl rfl))).trans h.blk, h.top, cnts_keep h.row hk (fun k hk' => hd k (.inr hk')), h.cap, h.nil, h.inv, h.out, fun k hk' => Nat.lt_of_lt_of_le (h.low k hk') hk.size⟩, rfl⟩
  lt := by
    rintro w F ⟨A, c, cs, h, rfl⟩ k (rfl | hk)
    · exact (Array.getElem?_eq_some_iff.1 h.blk).1
    · exact h.low k hk
theorem RfO.below {w w' : World} {xb : Nat} {F : Nat → Prop} {s : HvS} (h : RfO w xb F s) (hb : Below w.heap.size w w') : RfO w' xb F s := (RfO.own xb s).below h hb
theorem RfO.inv {w : World} {xb : Nat} {F : Nat → Prop} {s : HvS} (h : RfO w xb F s) : HvInv s := by obtain ⟨_, _, _, h, _⟩ := h; exact h.inv

/-- What a cut leaves. -/
def CutNew (w : World) (xb : Nat) (room total slack added : Int) (S : CntrL) (e : Ending) (w' : World) : Prop :=
  e = .returned (.tuple #[]) ∧ ∃ g c cs, RfB w' xb room total (slack + cutC room S) added (some ⟨g, 0, none⟩) (List.length cs) c ∧ TopOf (cutS room S) cs ∧ w'.ownsRow w.heap.size 28 2 (.slice (some ⟨g, 0, none⟩) cs.length c) cs.length (cs.flatMap cntEnc) ∧ Keeps (fun k => k = xb) w w'

set_option maxRecDepth 20000 in
set_option maxHeartbeats 8000000 in
theorem rcut_any (xb : Nat) (room total slack added : Int) (A : Option Addr) (c : Nat) (cs : List CntV) (S : CntrL) (w : World) (hB : RfB w xb room total slack added A cs.length c) (hat : CntsAt w w.heap.size A cs) (hp : (S.map hToCnt).Perm cs) (hn : (S.map (·.1)).Nodup) (hps : PosS S) (hr : 1 ≤ room) (hr2 : room ≤ 4096) (hl : (S.length : Int) ≤ 10000) (hsum : sumS S ≤ 2199023255552) (hs0 : 0 ≤ slack) (hs1 : slack ≤ 2199023255552) :
    Calls Try.prog 42 #[.pointer (some ⟨xb, 0, none⟩)] w (CutNew w xb room total slack added S) := by
  have hlen : cs.length = S.length := by have := hp.length_eq; rw [List.length_map] at this; exact this.symm
  have hcn : cs.Nodup := hp.nodup_iff.1 (toCnt_nodup hn)
  have hcl : (cs.length : Int) ≤ 10000 := by omega
  have q := rsort_any A w.heap.size c cs w hat (Nat.le_refl _) (by omega) hcn
  have Q := Lib.hid q
  obtain ⟨r, rfl⟩ : ∃ r : Nat, room = (r : Int) := ⟨room.toNat, by omega⟩
  have hxl : xb < w.heap.size := (Array.getElem?_eq_some_iff.1 hB).1
  obtain ⟨⟨c0, c1, c2, c3, c4⟩, f1, f2, f3, f4⟩ := five_cells hB
  have HBL := Lib.hid hB
  have HP := Lib.hid hp
  clear q hat hp hcn hB hlen
  go_enter Try.func42, Try.ntmps42
  go_wp2_with fail
  refine Q.out.mono ?_
  rintro e w1 ⟨ts, hpt, hst, g, cc, rfl, hown, hb1⟩
  have hT : TopOf S ts := ⟨HP.out.trans hpt, hst⟩
  have hB1 : RfB w1 xb (r : Int) total slack added A cs.length c := (hb1.block xb hxl).trans HBL.out
  obtain ⟨⟨d0, d1, d2, d3, d4⟩, g1, g2, g3, g4⟩ := five_cells hB1
  have hz1 := hb1.size
  have hgl := hown.lt g rfl
  have hB2 : RfB (w1.setCell ⟨xb, 1, none⟩ (.slice (some ⟨g, 0, none⟩) ts.length cc)) xb (r : Int) total slack added (some ⟨g, 0, none⟩) ts.length cc := (five_set hB1).1 _
  have hk2 : Keeps (fun k => k = xb) w (w1.setCell ⟨xb, 1, none⟩ (.slice (some ⟨g, 0, none⟩) ts.length cc)) := Keeps.setCell (F := fun k => k = xb) (p := ⟨xb, 1, none⟩) (Keeps.ofBelow hb1 (fun k => k = xb)) (.inr rfl) _
  have hown2 : (w1.setCell ⟨xb, 1, none⟩ (.slice (some ⟨g, 0, none⟩) ts.length cc)).ownsRow w.heap.size 28 2 (.slice (some ⟨g, 0, none⟩) ts.length cc) ts.length (ts.flatMap cntEnc) := ownsRow_setCell_below hown (show xb < w.heap.size from hxl) _
  have hz2 : w.heap.size ≤ (w1.setCell ⟨xb, 1, none⟩ (.slice (some ⟨g, 0, none⟩) ts.length cc)).heap.size := by rw [size_setCell]; exact hz1
  clear hb1 hown hB1 Q HP hpt hst
  have hgx : ¬ g = xb := by omega
  have HT := Lib.hid hT
  have htl0 : ts.length = S.length := hT.len
  have htl1 : (ts.length : Int) ≤ 10000 := by omega
  have HTL := Lib.hid htl0
  clear htl0
  clear hT
  go_wp2_with fail
  generalize w1.setCell ⟨xb, 1, none⟩ (.slice (some ⟨g, 0, none⟩) ts.length cc) = W2 at *
  obtain ⟨⟨e0, e1, e2, e3, e4⟩, i1, i2, i3, i4⟩ := five_cells hB2
  have HB2 := Lib.hid hB2
  have HK2 := Lib.hid hk2
  have HOW2 := Lib.hid hown2
  clear hB2 hk2 hown2 d0 d1 d2 d3 d4 g1 g2 g3 g4 f1 f2 f3 f4 hgl
  by_cases hlt : (r : Int) < (ts.length : Int)
  · have hrl : r < ts.length := by omega
    have hN := HT.out.nthV hrl
    have hcv : cutC (r : Int) S = (ts[r]).n := by unfold cutC; rw [if_pos (by have := HTL.out; omega), Int.toNat_natCast]; exact hN
    have hsv : cutS (r : Int) S = takeL S (ts[r]).n := by unfold cutS; rw [if_pos (by have := HTL.out; omega), Int.toNat_natCast, hN]
    have hmn := HT.out.minus (ts[r]).n
    have hvb : ∀ x ∈ ts, 0 ≤ x.n ∧ x.n ≤ 2199023255552 := fun x hx => by
      obtain ⟨p, hp', rfl⟩ := List.mem_map.1 (HT.out.1.mem_iff.2 hx)
      have h1 := hps p hp'
      have h2 := mem_le_sum hps p hp'
      show 0 ≤ p.2 ∧ p.2 ≤ _
      omega
    have hvr := hvb _ (List.getElem_mem hrl)
    have hat2 : CntsAt W2 W2.heap.size (some ⟨g, 0, none⟩) ts := Reads.of_own HOW2.out
    obtain ⟨b', o', e', hbl', k1, k2⟩ := hat2.one hrl
    injection e' with e'
    injection e' with e5 e6
    subst e5 e6
    rw [Nat.zero_add] at k1 k2
    have q := fun W (hb : Below W2.heap.size W2 W) => rminus_any (some ⟨g, 0, none⟩) W2.heap.size cc ts (ts[r]).n W (hat2.below hb) hb.size (by omega) hvr hvb
    have Q := Lib.hid q
    have HCV := Lib.hid hcv
    have HSV := Lib.hid hsv
    have HMN := Lib.hid hmn
    clear q hcv hsv hmn hN hvb hat2
    generalize (ts[r]).n = v at *
    generalize (ts[r]).key = kk at *
    have hrz : ((r : Nat) : Int).toNat = r := Int.toNat_natCast r
    have hr0 : (0 : Int) ≤ (r : Int) := by omega
    have hdl : decide ((r : Int) < (ts.length : Int)) = true := by simpa using hlt
    have hw3 : wrap64 (slack + v) = slack + v := by unfold wrap64; omega
    go_quiet (fail)
    go_wp2_with fail
    go_quiet (fail)
    go_wp2_with fail
    refine (Q.out _ (below_drewN (Below.refl _ _) _)).mono ?_
    rintro e w5 ⟨g5, c5, rfl, hown5, hb5⟩
    have hb5' : Below W2.heap.size W2 w5 := (below_drewN (Below.refl _ _) _).trans hb5
    have hx2 : xb < W2.heap.size := by omega
    have hB5 : RfB w5 xb (r : Int) total slack added (some ⟨g, 0, none⟩) ts.length cc := (hb5'.block xb hx2).trans HB2.out
    have hg5 := hown5.lt g5 rfl
    have hown5' : w5.ownsRow w.heap.size 28 2 (.slice (some ⟨g5, 0, none⟩) (minusC ts v).length c5) (minusC ts v).length ((minusC ts v).flatMap cntEnc) := own_base hown5 hz2
    have hB6 : RfB (w5.setCell ⟨xb, 1, none⟩ (.slice (some ⟨g5, 0, none⟩) (minusC ts v).length c5)) xb (r : Int) total slack added (some ⟨g5, 0, none⟩) (minusC ts v).length c5 := (five_set hB5).1 _
    have hk6 : Keeps (fun k => k = xb) w (w5.setCell ⟨xb, 1, none⟩ (.slice (some ⟨g5, 0, none⟩) (minusC ts v).length c5)) := Keeps.setCell (F := fun k => k = xb) (p := ⟨xb, 1, none⟩) (HK2.out.trans (Keeps.ofBelow hb5' (fun k => k = xb)) (fun _ _ e => e)) (.inr rfl) _
    have hown6 := ownsRow_setCell_below (a := ⟨xb, 1, none⟩) hown5' (show xb < w.heap.size from hxl) (.slice (some ⟨g5, 0, none⟩) (minusC ts v).length c5)
    have hml := minusC_len ts v
    obtain ⟨⟨l0, l1, l2, l3, l4⟩, m1, m2, m3, m4⟩ := five_cells hB5
    have HMN2 := Lib.hid HMN.out
    generalize hmm : minusC ts v = ms at *
    clear hmm hb5 hb5' hB5 hown5 hown5' e0 e1 e2 e3 e4 i1 i2 i3 i4 Q k1 k2
    go_wp2_with fail
    generalize w5.setCell ⟨xb, 1, none⟩ (.slice (some ⟨g5, 0, none⟩) ms.length c5) = W6 at *
    obtain ⟨⟨e0, e1, e2, e3, e4⟩, i1, i2, i3, i4⟩ := five_cells hB6
    have fin : CutNew w xb (r : Int) total slack added S (.returned (.tuple #[])) (W6.setCell ⟨xb, 3, none⟩ (.int .i64 (slack + v))) := by
      refine ⟨rfl, g5, c5, ms, ?_, by rw [HSV.out]; exact HMN2.out, ownsRow_setCell_below (a := ⟨xb, 3, none⟩) hown6 (show xb < w.heap.size from hxl) _, Keeps.setCell (F := fun k => k = xb) (p := ⟨xb, 3, none⟩) hk6 (.inr rfl) _⟩
      rw [HCV.out]
      exact (five_set hB6).2.2.1 _
    have FIN := Lib.hid fin
    clear fin hB6 hk6 hown6 l0 l1 l2 l3 l4 m1 m2 m3 m4
    go_wp2
    refine bodyPost_ret (results_none rfl _ _ _) rfl ?_
    exact FIN.out
  · have hcv : cutC (r : Int) S = 0 := by unfold cutC; rw [if_neg (by have := HTL.out; omega)]
    have hsv : cutS (r : Int) S = S := by unfold cutS; rw [if_neg (by have := HTL.out; omega)]
    have hdl : decide ((r : Int) < (ts.length : Int)) = false := by simpa using hlt
    have fin : ∀ q, CutNew w xb (r : Int) total slack added S (.returned (.tuple #[])) (W2.drewN q) := fun q => by
      refine ⟨rfl, g, cc, ts, ?_, by rw [hsv]; exact HT.out, HOW2.out, HK2.out.drewN q⟩
      rw [hcv, Int.add_zero]
      exact HB2.out
    have FIN := Lib.hid fin
    clear fin hcv hsv
    go_quiet (fail)
    go_wp2
    refine bodyPost_ret (results_none rfl _ _ _) rfl ?_
    exact FIN.out _

theorem RfAt.bds {w : World} {xb : Nat} {s : HvS} {A : Option Addr} {c : Nat} {cs : List CntV} (h : RfAt w xb s A c cs) : ∀ x ∈ cs, 0 ≤ x.n ∧ x.n ≤ 1099511627776 := fun x hx => by
  obtain ⟨p, hp', rfl⟩ := List.mem_map.1 (h.top.1.mem_iff.2 hx)
  have h1 := h.inv.pos p hp'
  have h2 := mem_le_sum h.inv.pos p hp'
  have h3 := h.inv.sl
  show 0 ≤ p.2 ∧ p.2 ≤ _
  omega
theorem RfAt.len {w : World} {xb : Nat} {s : HvS} {A : Option Addr} {c : Nat} {cs : List CntV} (h : RfAt w xb s A c cs) : (cs.length : Int) ≤ 4096 := by
  have h1 := h.top.len
  have h2 := h.inv.len
  have h3 := h.inv.r2
  omega

set_option maxRecDepth 20000 in
set_option maxHeartbeats 2000000 in
theorem rlow_any {w : World} {xb : Nat} {s : HvS} {A : Option Addr} {c : Nat} {cs : List CntV} (h : RfAt w xb s A c cs) (key : ByteArray) :
    Calls Try.prog 37 #[.pointer (some ⟨xb, 0, none⟩), .string key] w fun e w' => e = .returned (.int .i64 (lowV s.S key)) ∧ Below w.heap.size w w' := by
  have hlow := lowC_is h.inv.nd h.top.1 key
  have hbd := h.len
  have hat := h.row
  obtain ⟨⟨c0, c1, c2, c3, c4⟩, -, -, -, -⟩ := five_cells h.blk
  have hxl : xb < w.heap.size := (Array.getElem?_eq_some_iff.1 h.blk).1
  have HL := Lib.hid hlow
  have HAT := Lib.hid hat
  clear hlow hat h c0 c2 c3 c4
  generalize lowV s.S key = v at *
  go_enter Try.func37, Try.ntmps37
  go_wp2_with fail
  go_loopg [5] cs.length (fun rest i wr => ∃ k : Nat, i = .int .i64 k ∧ Hid (k + rest = cs.length) ∧ Hid (∀ x ∈ cs.take k, decide (x.key = key) = false) ∧ Below w.heap.size w wr)
  case atStart => exact ⟨0, rfl, Lib.hid (by simp), Lib.hid (by simp), Below.refl _ _⟩
  case round =>
    obtain ⟨k, rfl, HK, HN, hb⟩ := hrel
    have d1 := (hb.cell (p := ⟨xb, 1, none⟩) hxl).trans c1
    by_cases hk : (k : Int) < (cs.length : Int)
    · have hkl : k < cs.length := by omega
      obtain ⟨b, o, rfl, hbl, e1, e2⟩ := (HAT.out.below hb).one hkl
      have hkt : cs.take (k + 1) = cs.take k ++ [cs[k]] := List.take_succ_eq_append_getElem hkl
      have hsp : cs = cs.take k ++ cs[k] :: cs.drop (k + 1) := by rw [← List.drop_eq_getElem_cons hkl, List.take_append_drop]
      have hfd : cs[k].key = key → lowC cs key = cs[k].n := fun e => by
        unfold lowC
        conv => lhs; rw [hsp]
        rw [List.find?_append, List.find?_eq_none.2 (fun x hx => by rw [HN.out x hx]; simp), List.find?_cons_of_pos (by simpa using e)]
        rfl
      have HFD := Lib.hid hfd
      have HKT := Lib.hid hkt
      clear hfd hkt hsp
      generalize cs[k] = y at *
      by_cases hy : y.key = key
      · have he : (y.key.toList == key.toList) = true := by rw [str_beq]; simpa using hy
        have HV : Hid (y.n = v) := Lib.hid (by rw [← HFD.out hy]; exact HL.out)
        clear hy HFD
        go_wp2
        go_ret
        exact ⟨by rw [← HV.out]; rfl, hb⟩
      · have he : (y.key.toList == key.toList) = false := by rw [str_beq]; simpa using hy
        have HN2 : Hid (∀ x ∈ cs.take (k + 1), decide (x.key = key) = false) := Lib.hid (by
          rw [HKT.out]
          intro x hx
          rcases List.mem_append.1 hx with hx | hx
          · exact HN.out x hx
          · simp at hx; subst hx; simpa using hy)
        clear hy HFD
        go_wp2
        go_roundg (gk - 1)
        case measure => have := HK.out; omega
        case rel => exact ⟨k + 1, by go_num, Lib.hid (by have := HK.out; omega), HN2, hb⟩
    · have HV : Hid (0 = v) := Lib.hid (by
        rw [← HL.out]
        unfold lowC
        rw [List.find?_eq_none.2 (fun x hx => by
          have := HN.out x (by rw [List.take_of_length_le (by omega)]; exact hx)
          rw [this]; simp)]
        rfl)
      go_wp2
      go_ret
      exact ⟨by rw [← HV.out]; rfl, hb⟩

/-- What an add of the reference leaves. -/
def AddNewR (w : World) (xb : Nat) (F : Nat → Prop) (s : HvS) (k : ByteArray) (n : Int) (e : Ending) (w' : World) : Prop :=
  e = .returned (.bool (hokB s k n)) ∧ ∃ F', RfO w' xb F' (addH s k n) ∧ Upd F w F' w'
/-- Behind a cut. -/
theorem cut_fin {w W w5 : World} {xb : Nat} {A : Option Addr} {room total slack added : Int} {S : CntrL} {e : Ending} (hx : xb < W.heap.size) (hk : Keeps (fun k => k = xb) w W) (h : CutNew W xb room total slack added S e w5) {s' : HvS} (hs : s' = ⟨room, added, total, slack + cutC room S, cutS room S⟩) (hi : HvInv s') :
    ∃ F', RfO w5 xb F' s' ∧ Upd (fun k => k = xb ∨ rowF A k) w F' w5 := by
  obtain ⟨-, g, c, cs, hB, hT, hown, hk5⟩ := h
  have hg := hown.lt g rfl
  subst hs
  refine ⟨fun k => k = xb ∨ rowF (some ⟨g, 0, none⟩) k, ⟨some ⟨g, 0, none⟩, c, cs, ⟨hB, hT, Reads.of_own hown, own_capC hown, (fun h => by cases h), hi, ?_, ?_⟩, rfl⟩, ⟨(hk.trans hk5 (fun _ _ e => e)).mono (fun k _ e => .inl e), ?_⟩⟩
  · rintro ⟨o, sp, e⟩
    injection e with e
    injection e with e
    omega
  · rintro k ⟨o, sp, e⟩
    injection e with e
    injection e with e
    omega
  · rintro k (e | ⟨o, sp, e⟩)
    · exact .inl (.inl e)
    · injection e with e
      injection e with e
      have := hk.size
      exact .inr (by omega)

set_option maxRecDepth 20000 in
set_option maxHeartbeats 2000000 in
theorem radd_not (xb : Nat) (F : Nat → Prop) (s : HvS) (k : ByteArray) (n : Int) (w : World) (h : RfO w xb F s) (hk : (k.size : Int) ≤ 4611686018427387904) (hno : hokB s k n = false) :
    Calls Try.prog 35 #[.pointer (some ⟨xb, 0, none⟩), .string k, .int .i64 n] w (AddNewR w xb F s k n) := by
  have fin : AddNewR w xb F s k n (.returned (.bool false)) w := by
    refine ⟨by rw [hno], F, ?_, Upd.refl _ _⟩
    unfold addH
    rw [if_neg (by rw [hno]; simp)]
    exact h
  have FIN := Lib.hid fin
  obtain ⟨A, c, cs, hA, rfl⟩ := h
  obtain ⟨⟨c0, c1, c2, c3, c4⟩, -, -, -, -⟩ := five_cells hA.blk
  have hx : ¬ ((1 : Int) ≤ k.size ∧ (k.size : Int) ≤ 24 ∧ 0 ≤ n ∧ n ≤ 1048576 ∧ s.added < 1048576) := fun e => by rw [hokB_iff.2 e] at hno; cases hno
  clear fin hA hno
  by_cases h1 : (k.size : Int) < 1
  · go_enter Try.func35, Try.ntmps35
    go_wp2
    go_ret
    exact FIN.out
  · by_cases h2 : 24 < (k.size : Int)
    · go_enter Try.func35, Try.ntmps35
      go_wp2
      go_ret
      exact FIN.out
    · by_cases h3 : n < 0
      · go_enter Try.func35, Try.ntmps35
        go_wp2
        go_ret
        exact FIN.out
      · by_cases h4 : 1048576 < n
        · go_enter Try.func35, Try.ntmps35
          go_wp2
          go_ret
          exact FIN.out
        · have h5 : (1048576 : Int) ≤ s.added := by omega
          clear hx
          go_enter Try.func35, Try.ntmps35
          go_wp2
          go_ret
          exact FIN.out

set_option maxRecDepth 20000 in
set_option maxHeartbeats 4000000 in
theorem radd_ok (xb : Nat) (F : Nat → Prop) (s : HvS) (k : ByteArray) (n : Int) (w : World) (h : RfO w xb F s) (hok : hokB s k n = true) :
    Calls Try.prog 35 #[.pointer (some ⟨xb, 0, none⟩), .string k, .int .i64 n] w (AddNewR w xb F s k n) := by
  obtain ⟨A, c, cs, hA, rfl⟩ := h
  obtain ⟨k1, k2, n0, n1, a1⟩ := hokB_iff.1 hok
  have hi := hA.inv
  have hxl : xb < w.heap.size := (Array.getElem?_eq_some_iff.1 hA.blk).1
  have hsl := hi.sl
  have hw1 : wrap64 (s.added + 1) = s.added + 1 := by have := hi.a0; have := hi.a1; unfold wrap64; omega
  have hw2 : wrap64 (s.total + n) = s.total + n := by have := hi.t0; unfold wrap64; omega
  have hb1 := (five_set hA.blk).2.2.2 (.int .i64 (s.added + 1))
  have hb2 : RfB ((w.setCell ⟨xb, 4, none⟩ (.int .i64 (s.added + 1))).setCell ⟨xb, 2, none⟩ (.int .i64 (s.total + n))) xb s.room (s.total + n) s.slack (s.added + 1) A cs.length c := (five_set hb1).2.1 _
  have hk2 : Keeps (fun k => k = xb) w ((w.setCell ⟨xb, 4, none⟩ (.int .i64 (s.added + 1))).setCell ⟨xb, 2, none⟩ (.int .i64 (s.total + n))) := Keeps.setCell (F := fun k => k = xb) (p := ⟨xb, 2, none⟩) (Keeps.setCell (F := fun k => k = xb) (p := ⟨xb, 4, none⟩) (Keeps.refl _ _) (.inr rfl) _) (.inr rfl) _
  have hat2 := cnts_keep hA.row hk2 (fun k hk e => hA.out (by rw [e] at hk; exact hk))
  have hlen := hA.len
  have hbds := hA.bds
  have q := rplus_any A _ c cs k n _ hat2 (Nat.le_refl _) (by omega) (by omega) (fun x hx => by have := hbds x hx; omega)
  have hpl := TopOf.plus hi.nd hA.top.1 k n
  have hpn := plusS_nodup hi.nd k n
  have hpp := plusS_pos hi.pos k n0
  have hps := sumS_plus hi.nd k n
  have hpc := plusS_len s.S k n
  have hil := hi.len
  have hr2 := hi.r2
  have hsc : sumS (plusS s.S k n) ≤ 2199023255552 := by omega
  have hslc : ((plusS s.S k n).length : Int) ≤ 10000 := by omega
  have hs0 := hi.s0
  have hs1 : s.slack ≤ 2199023255552 := by omega
  have hq2 := fun A' c' W' hB hat => rcut_any xb s.room (s.total + n) s.slack (s.added + 1) A' c' (plusC cs k n) (plusS s.S k n) W' hB hat hpl hpn hpp hi.r1 hr2 hslc hsc hs0 hs1
  have fin : ∀ W e w5, xb < W.heap.size → Keeps (fun k => k = xb) w W → CutNew W xb s.room (s.total + n) s.slack (s.added + 1) (plusS s.S k n) e w5 → AddNewR w xb (fun k => k = xb ∨ rowF A k) s k n (.returned (.bool true)) w5 := fun W e w5 h1 h2 h3 =>
    ⟨by rw [hok], cut_fin h1 h2 h3 (hokB_add hok) (addH_inv hi k n)⟩
  obtain ⟨⟨c0, c1, c2, c3, c4⟩, f1, f2, f3, f4⟩ := five_cells hA.blk
  obtain ⟨⟨d0, d1, d2, d3, d4⟩, g1, g2, g3, g4⟩ := five_cells hb1
  have Q := Lib.hid q
  have HQ2 := Lib.hid hq2
  have FIN := Lib.hid fin
  have HB2 := Lib.hid hb2
  have HK2 := Lib.hid hk2
  clear q hq2 fin hA hb1 hat2 hbds hpl hpn hpp hps hpc hsc hslc hok hi hil hb2 hk2
  go_enter Try.func35, Try.ntmps35
  go_wp2_with fail
  generalize (w.setCell ⟨xb, 4, none⟩ (.int .i64 (s.added + 1))).setCell ⟨xb, 2, none⟩ (.int .i64 (s.total + n)) = W2 at *
  refine Q.out.mono ?_
  rintro e w3 ⟨g3', c3', rfl, hown3, hb3⟩
  have hxw : xb < W2.heap.size := (Array.getElem?_eq_some_iff.1 HB2.out).1
  have hB3 := (hb3.block xb hxw).trans HB2.out
  have hB4 : RfB (w3.setCell ⟨xb, 1, none⟩ (.slice (some ⟨g3', 0, none⟩) (plusC cs k n).length c3')) xb s.room (s.total + n) s.slack (s.added + 1) (some ⟨g3', 0, none⟩) (plusC cs k n).length c3' := (five_set hB3).1 _
  have hk4 : Keeps (fun k => k = xb) w (w3.setCell ⟨xb, 1, none⟩ (.slice (some ⟨g3', 0, none⟩) (plusC cs k n).length c3')) := Keeps.setCell (F := fun k => k = xb) (p := ⟨xb, 1, none⟩) (HK2.out.trans (Keeps.ofBelow hb3 (fun k => k = xb)) (fun _ _ e => e)) (.inr rfl) _
  have hown4 := ownsRow_setCell_below (a := ⟨xb, 1, none⟩) hown3 hxw (.slice (some ⟨g3', 0, none⟩) (plusC cs k n).length c3')
  have hq := HQ2.out (some ⟨g3', 0, none⟩) c3' _ hB4 (Reads.of_own hown4)
  obtain ⟨⟨l0, l1, l2, l3, l4⟩, m1, m2, m3, m4⟩ := five_cells hB3
  have HQ := Lib.hid hq
  have HK4 := Lib.hid hk4
  have HX4 : Hid (xb < (w3.setCell ⟨xb, 1, none⟩ (.slice (some ⟨g3', 0, none⟩) (plusC cs k n).length c3')).heap.size) := Lib.hid ((Array.getElem?_eq_some_iff.1 hB4).1)
  clear hq hk4 hB4 hown4 hB3 hown3 hb3 Q HQ2 d0 d1 d2 d3 d4 g1 g2 g3 g4 c0 c1 c2 c3 c4 f1 f2 f3 f4
  generalize plusC cs k n = ps at *
  go_wp2_with fail
  refine HQ.out.mono ?_
  rintro e w5 hcut
  have he := hcut.1
  subst he
  go_wp2
  go_ret
  exact FIN.out _ _ _ HX4.out HK4.out hcut
theorem radd_any (xb : Nat) (F : Nat → Prop) (s : HvS) (k : ByteArray) (n : Int) (w : World) (h : RfO w xb F s) (hk : (k.size : Int) ≤ 4611686018427387904) :
    Calls Try.prog 35 #[.pointer (some ⟨xb, 0, none⟩), .string k, .int .i64 n] w (AddNewR w xb F s k n) := by
  by_cases hok : hokB s k n = true
  · exact radd_ok xb F s k n w h hok
  · exact radd_not xb F s k n w h hk (by simpa using hok)
end Go.Proofs.Ytpjaolablkcpmaa
