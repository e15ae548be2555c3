/- Contract of the cache's Touch. -/
import Derived.Test.YtmigjlceogofaaaCacD
import Derived.Test.YtmigjlceogofaaaKitF
namespace Go.Proofs.Ytmigjlceogofaaa
open Go.ChangeShapes Go.WideShapes Go.ChangeAt Go.RowKit Go.Shelf Go.Lib Go.Proofs
set_option linter.unusedVariables false
set_option linter.unusedSimpArgs false

def boolVf (b : Bool) : Value := .bool b
abbrev SetL := List (ByteArray × Bool)
def setHas (T : SetL) (x : ByteArray) : Bool := (mget T x).getD false
theorem zero_bool29 (w : World) : (zeroValue 4).run Try.prog w = .ok (.bool false) w := by kernel_rfl
theorem look_set {W : World} {mb : Nat} {T : SetL} (h : MapIs W strKf boolVf strOk mb T) {x : ByteArray} (hx : strOk x) :
    (Instr.lookup 116 (.map (some mb)) (.string x) false).run Try.prog W = .ok (.bool (setHas T x)) W := by
  have := h.look (P := Try.prog) strKey (t := 116) Try.underlying116 zero_bool29 (x := x) hx
  have e : ((mget T x).map boolVf).getD (.bool false) = .bool (setHas T x) := by
    unfold setHas
    cases mget T x <;> rfl
  rw [e] at this
  exact this

set_option maxHeartbeats 400000 in
theorem tin_any {w : World} {tb mb : Nat} {T : SetL} (hc : w.cell? ⟨tb, 0, none⟩ = some (.map (some mb))) (hm : MapIs w strKf boolVf strOk mb T) (x : ByteArray) (hx : strOk x) :
    Calls Try.prog 58 #[.string x, .pointer (some ⟨tb, 0, none⟩)] w fun e w' => e = .returned (.bool (setHas T x)) ∧ w = w' := by
  have hl := look_set hm hx
  go_enter Try.func58, Try.ntmps58
  go_wp2
  go_ret
  exact ⟨rfl, rfl⟩

theorem enters_tin : ∀ args w, (callFunc 58 args).run Try.prog w = .ok (.enter 58 args) w := by
  intro args w; kernel_rfl
theorem enters_tout : ∀ args w, (callFunc 56 args).run Try.prog w = .ok (.enter 56 args) w := by
  intro args w; kernel_rfl

set_option maxHeartbeats 1000000 in
theorem tout_any {w : World} {tb mb : Nat} {T : SetL} (hc : w.cell? ⟨tb, 0, none⟩ = some (.map (some mb))) (hm : MapIs w strKf boolVf strOk mb T) (htb : tb < w.heap.size) (k : ByteArray) (eb : Nat) (e : EntV) (he : w.heap[eb]? = some (.cells e.row 115 (0, 0))) (hd : StrsAt w w.heap.size e.A e.deps) (hl : (e.deps.length : Int) ≤ 9223372036854775807) :
    Calls Try.prog 56 #[.string k, .pointer (some ⟨eb, 0, none⟩), .pointer (some ⟨tb, 0, none⟩)] w fun r w' => r = .returned (.bool (e.deps.any (setHas T))) ∧ ∃ q, w' = w.drewN q := by
  have e1 : w.cell? ⟨eb, 1, none⟩ = some (.slice e.A e.deps.length e.c) := by rw [cell_of_row w eb _ _ _ _ he]; rfl
  obtain ⟨m, hmm⟩ := okEnc_map e.deps hd.2
  have hlen : m.length = e.deps.length := by rw [← hmm]; simp
  have q := containsFunc_any (P := Try.prog) Try.cfS okEnc (fun s : OkS => setHas T s.1) 58 #[.pointer (some ⟨tb, 0, none⟩)] enters_tin e.A w.heap.size e.c m w
    (by
      intro W x hb
      refine (tin_any (w := W) (tb := tb) (mb := mb) (T := T) ((hb.cell (p := ⟨tb, 0, none⟩) htb).trans hc) (hm.below hb hm.lt) x.1 x.2).mono ?_
      rintro r w' ⟨rfl, rfl⟩
      exact ⟨rfl, 0, rfl⟩)
    (by
      have := hd.1
      rw [← hmm] at this
      simpa [List.map_map, okEnc, Function.comp_def] using this) (by omega)
  have ha : m.any (fun s : OkS => setHas T s.1) = e.deps.any (setHas T) := by rw [← hmm, List.any_map]; rfl
  rw [ha, hlen] at q
  have Q := Lib.hid q
  clear q ha hmm hlen
  go_enter Try.func56, Try.ntmps56
  go_wp2_with fail
  refine Q.out.mono ?_
  rintro r w' ⟨rfl, q, rfl⟩
  go_wp2
  go_ret
  exact ⟨rfl, q, rfl⟩

/-- What stays while one deletes. -/
def stayF (p : ByteArray → Nat → Bool) (left : EntL) (q : ByteArray × Nat) : Bool := (mget left q.1).isSome || !p q.1 q.2
theorem stay_start (p : ByteArray → Nat → Bool) (l : EntL) (hn : (l.map (·.1)).Nodup) : l.filter (stayF p l) = l := by
  rw [List.filter_eq_self]
  intro q hq
  unfold stayF
  rw [mget_of_mem hn (x := q.1) (v := q.2) (by simpa using hq)]
  rfl
theorem stay_end (p : ByteArray → Nat → Bool) (l : EntL) : l.filter (stayF p []) = l.filter (fun q => !p q.1 q.2) := by
  apply List.filter_congr
  intro q _
  simp [stayF, mget]
theorem stay_no {p : ByteArray → Nat → Bool} {l left : EntL} {x : ByteArray} {v : Nat} (hn : (l.map (·.1)).Nodup) (hl : (x, v) ∈ l) (hp : p x v = false) : l.filter (stayF p (mdel left x)) = l.filter (stayF p left) := by
  apply List.filter_congr
  intro q hq
  unfold stayF
  rw [mget_mdel]
  by_cases e : q.1 = x
  · have : q.2 = v := by
      have a1 := mget_of_mem hn (x := q.1) (v := q.2) (by simpa using hq)
      have a2 := mget_of_mem hn hl
      rw [e, a2] at a1
      injection a1 with a1
      exact a1.symm
    rw [e, this, hp]
    simp
  · rw [if_neg e]
theorem stay_yes {p : ByteArray → Nat → Bool} {l left : EntL} {x : ByteArray} {v : Nat} (hn : (l.map (·.1)).Nodup) (hl : (x, v) ∈ l) (hp : p x v = true) : mdel (l.filter (stayF p left)) x = l.filter (stayF p (mdel left x)) := by
  unfold mdel
  rw [List.filter_filter]
  apply List.filter_congr
  intro q hq
  have hm := mget_mdel (l := left) x q.1
  unfold mdel at hm
  unfold stayF
  rw [hm]
  by_cases e : q.1 = x
  · have : q.2 = v := by
      have a1 := mget_of_mem hn (x := q.1) (v := q.2) (by simpa using hq)
      have a2 := mget_of_mem hn hl
      rw [e, a2] at a1
      injection a1 with a1
      exact a1.symm
    rw [e, this, hp]
    simp
  · simp [e]

def DelPost (w : World) (b : Nat) (l : EntL) (p : ByteArray → Nat → Bool) (e : Ending) (w' : World) : Prop :=
  e = .returned (.tuple #[]) ∧ MapIs w' strKf ptrVf strOk b (l.filter fun q => !p q.1 q.2) ∧ Keeps (fun k => k = b ∨ w.heap.size ≤ k) w w'

set_option maxRecDepth 20000 in
set_option maxHeartbeats 1000000 in
theorem mdel_any {w : World} {b : Nat} {l : EntL} (p : ByteArray → Nat → Bool) (g : Nat) (lb : Array Value) (eg : ∀ args w, (callFunc g args).run Try.prog w = .ok (.enter g args) w) (hm : MapIs w strKf ptrVf strOk b l)
    (hdel : ∀ W x v, (x, v) ∈ l → Keeps (fun k => k = b ∨ w.heap.size ≤ k) w W → Calls Try.prog g (#[.string x, .pointer (some ⟨v, 0, none⟩)] ++ lb) W fun e w' => e = .returned (.bool (p x v)) ∧ ∃ q, w' = W.drewN q) :
    Calls Try.prog 55 #[.map (some b), .func (.func g) #[] lb] w (DelPost w b l p) := by
  have hn := hm.nodup
  have HN := Lib.hid hn
  have HD := Lib.hid hdel
  have HO := Lib.hid hm.ok
  have hblt := hm.lt
  clear hdel hn
  have H1 := Lib.hid (fun (x : ByteArray) (v : Nat) (left : EntL) (h : (x, v) ∈ l) (hp : p x v = false) => stay_no (left := left) hm.nodup h hp)
  have H2 := Lib.hid (fun (x : ByteArray) (v : Nat) (left : EntL) (h : (x, v) ∈ l) (hp : p x v = true) => stay_yes (left := left) hm.nodup h hp)
  go_enter Try.func55, Try.ntmps55
  go_wp2_with (at_range; refine wpList_range_is rfl _ _ rfl Try.underlying94 rfl hm ?_; intro w0 hrg0 hb0 hs0)
  have hm0 : MapIs w0 strKf ptrVf strOk b (l.filter (stayF p l)) := by rw [stay_start p l HN.out]; exact hm.below hb0 hm.lt
  have hk0 : Keeps (fun k => k = b ∨ w.heap.size ≤ k) w w0 := Keeps.ofBelow hb0 _
  clear hb0 hs0 hm
  go_frame
  go_loopg [] l.length (fun rest wr => ∃ left : EntL, RangeAt wr strKf ptrVf w.heap.size (some b) left ∧ MapIs wr strKf ptrVf strOk b (l.filter (stayF p left)) ∧ Hid (∀ q ∈ left, q ∈ l) ∧ Hid (rest = left.length) ∧ Keeps (fun k => k = b ∨ w.heap.size ≤ k) w wr)
  case atStart => exact ⟨l, hrg0, hm0, Lib.hid (fun _ h => h), Lib.hid rfl, hk0⟩
  case round =>
    obtain ⟨left, hrg, hm1, HS, HL, hk⟩ := hrel
    go_wp2_with (at_next; refine wpList_next_is rfl _ rfl rfl hrg ?_ ?_)
    · intro h0
      subst h0
      rw [stay_end] at hm1
      (try go_frame)
      go_wp2
      go_end0
      exact ⟨rfl, hm1, hk⟩
    · intro x v w2 hmem hrg2 hk2 hz2 hen
      have hxl := HS.out _ hmem
      have hml : (mdel left x).length + 1 = left.length := mdel_len hrg.nodup (p := (x, v)) hmem
      have HML := Lib.hid hml
      have HS2 : Hid (∀ q ∈ mdel left x, q ∈ l) := Lib.hid (fun q hq => HS.out _ ((List.mem_filter.1 hq).1))
      have hbr : b ≠ w.heap.size := by omega
      have hm2 := hm1.keep hk2 (by exact hbr)
      have hkk : Keeps (fun k => k = b ∨ w.heap.size ≤ k) w w2 := hk.trans hk2 (fun k hk e => by omega)
      have hc := HD.out w2 x v hxl hkk
      simp only [strKf, ptrVf] at hen
      clear hml
      cases hp : p x v with
      | false =>
        rw [hp] at hc
        have hm3 := hm2
        rw [← H1.out x v left hxl hp] at hm3
        have HP := Lib.hid hp
        have HC := Lib.hid hc
        clear hp hc hm2 hm1
        (try go_frame)
        go_wp2_with (go_at_fn g; refine HC.out.mono ?_; rintro e w3 ⟨rfl, q, rfl⟩)
        go_roundg (gk - 1)
        case measure => have := HL.out; have := HML.out; omega
        case rel => exact ⟨mdel left x, hrg2.keep ((Keeps.refl (fun _ => False) w2).drewN q) (fun e => e) (fun _ _ e => e), hm3.drewN q, HS2, Lib.hid (by have := HL.out; have := HML.out; omega), hkk.drewN q⟩
      | true =>
        rw [hp] at hc
        have HP := Lib.hid hp
        have HC := Lib.hid hc
        clear hp hc hm1
        (try go_frame)
        go_wp2_with (first
          | (go_at_fn g; refine HC.out.mono ?_; rintro e w3 ⟨rfl, q, rfl⟩; have hrg3 := hrg2.keep ((Keeps.refl (fun _ => False) w2).drewN q) (fun e => e) (fun _ _ e => e); have hm3 := hm2.drewN q)
          | (at_delete; refine wpList_deleteR_is (y := x) rfl _ _ _ rfl Try.underlying94 rfl rfl (HO.out _ hxl) strKey hm3 hrg3 (fun p hp => by simpa using (List.mem_filter.1 hp).2) ?_; intro w4 hm4 hrg4 hk4 hz4; go_frame))
        rw [H2.out x v left hxl HP.out] at hm4
        go_roundg (gk - 1)
        case measure => have := HL.out; have := HML.out; omega
        case rel => exact ⟨mdel left x, hrg4, hm4, HS2, Lib.hid (by have := HL.out; have := HML.out; omega), (hkk.drewN q).trans hk4 (fun k _ e => .inl e)⟩

/-- What Touch leaves. -/
def touchF (ds : List ByteArray) (e : EntV) : Bool := e.deps.any fun d => memB d ds
def CTouch (cb : Nat) (sz us : Int) (V : CView) (ds : List ByteArray) (w : World) (F : Nat → Prop) (e : Ending) (w' : World) : Prop :=
  e = .returned (.int .i64 ((V.length : Int) - ((V.filter fun q => !(q.2.deps.any fun d => memB d ds)).length : Int))) ∧ ∃ F', CacO cb sz us (V.filter fun q => !(q.2.deps.any fun d => memB d ds)) w' F' ∧ Upd F w F' w'

theorem run_makeMapN {P : Program} {t k e : TypeId} (ht : P.underlying t = some (.map k e)) (n : Int) (w : World) : (Instr.makeMap t (some (.int .i64 n))).run P w = .ok (.map (some w.heap.size)) (w.alloc (.map #[] 0)) := by
  simp [Instr.makeMap, run_underlying ht, asInt, asIntOf, Result.andThen]

theorem memB_take_succ {ds : List ByteArray} {k : Nat} (hk : k < ds.length) (x : ByteArray) : memB x (ds.take (k + 1)) = (memB x (ds.take k) || decide (x = ds[k])) := by
  rw [Bool.eq_iff_iff, Bool.or_eq_true, memB_iff, memB_iff, decide_eq_true_eq, List.take_succ_eq_append_getElem hk, List.mem_append, List.mem_singleton]

set_option maxRecDepth 20000 in
set_option maxHeartbeats 2000000 in
theorem ctouch_any {w : World} {cb bs : Nat} {sz us : Int} {S : EntL} {E : Nat → EntV} (h : CacAt w cb bs sz us S E) (A : Option Addr) (c : Nat) (ds : List ByteArray) (hd : StrsAt w w.heap.size A ds) (hdl : (ds.length : Int) ≤ 1000000) (hSl : (S.length : Int) ≤ 1000000) (hel : ∀ p ∈ S, ((E p.2).deps.length : Int) ≤ 1000000) :
    Calls Try.prog 18 #[.pointer (some ⟨cb, 0, none⟩), .slice A ds.length c] w (CTouch cb sz us (viewOf S E) ds w (cacFoot cb bs S E)) := by
  have hmm := fun n w => run_makeMapN (P := Try.prog) (t := 116) Try.underlying116 n w
  have HH := Lib.hid h
  have HEL := Lib.hid hel
  clear h hel
  go_enter Try.func18, Try.ntmps18
  go_wp2
  clear hmm
  go_loopg [14] ds.length (fun rest i wr => ∃ (k : Nat) (T : SetL), i = .int .i64 k ∧ Hid (k + rest = ds.length) ∧ MapIs wr strKf boolVf strOk w.heap.size T ∧ Hid (∀ x, setHas T x = memB x (ds.take k)) ∧ wr.cell? ⟨w.heap.size + 1, 0, none⟩ = some (.map (some w.heap.size)) ∧ w.heap.size + 1 < wr.heap.size ∧ Below w.heap.size w wr)
  case atStart =>
    refine ⟨0, [], rfl, Lib.hid (by simp), (MapIs.made w _ _ _).alloc _, Lib.hid (fun x => by simp [setHas, mget, memB]), by simp, by simp, ((Below.refl _ _).alloc (by simp) _).alloc (by simp) _⟩
  case round =>
    obtain ⟨k, T, rfl, HK, hT, HT, ht, htz, hb⟩ := hrel
    have hkl : k ≤ ds.length := by have := HK.out; omega
    by_cases hk : (k : Int) < (ds.length : Int)
    · have hk' : k < ds.length := by omega
      obtain ⟨b, o, rfl, hbl, hcell, hs⟩ := (hd.below hb).one hk'
      have hx : strOk ds[k] := hd.2 _ (List.getElem_mem hk')
      obtain ⟨w2, hrun, hT2, hk2, hz2⟩ := hT.put (P := Try.prog) strKey (t := 116) Try.underlying116 (x := ds[k]) hx true
      have HT2 : Hid (∀ x, setHas (mput T ds[k] true) x = memB x (ds.take (k + 1))) := Lib.hid (fun x => by
        rw [memB_take_succ hk', ← HT.out x]
        unfold setHas
        rw [mget_mput]
        by_cases e : x = ds[k]
        · simp [e]
        · simp [e])
      have ht2 : w2.cell? ⟨w.heap.size + 1, 0, none⟩ = some (.map (some w.heap.size)) := (hk2.cell htz (by simp)).trans ht
      have hb2 : Below w.heap.size w w2 := hb.trans (hk2.toBelow hb.size (fun k hk => by omega))
      have htz2 : w.heap.size + 1 < w2.heap.size := by omega
      simp only [strKf, boolVf] at hrun
      generalize hy : ds[k] = y at *
      clear hy hx hT hk2 hz2
      go_wp2
      go_roundg (gk - 1)
      case measure => have := HK.out; omega
      case rel => exact ⟨k + 1, _, by go_num, Lib.hid (by have := HK.out; omega), hT2, HT2, ht2, htz2, hb2⟩
    · have hCr := HH.out.below hb
      obtain ⟨c0, c1, c2⟩ := cell_of_cac hCr
      have hln := len_ent hCr
      have HTA : Hid (∀ x, setHas T x = memB x ds) := Lib.hid (fun x => by rw [HT.out x, List.take_of_length_le (by omega)])
      have q := mdel_any (w := wr) (b := bs) (l := S) (fun x v => touchF ds (E v)) 56 #[.pointer (some ⟨w.heap.size + 1, 0, none⟩)] enters_tout hCr.ents (by
        intro W x v hm hkW
        have hbs : bs < w.heap.size := HH.out.lt _ (.inl (.inr (.inl rfl)))
        have hvl := hCr.lt _ (.inl (.inr (.inr ⟨(x, v), hm, rfl⟩)))
        refine (tout_any (w := W) (tb := w.heap.size + 1) (mb := w.heap.size) (T := T) ?_ ?_ ?_ x v (E v) ?_ ?_ ?_).mono ?_
        · exact (hkW.cell htz (by simp only; omega)).trans ht
        · exact hT.keep hkW (by omega)
        · exact Nat.lt_of_lt_of_le htz hkW.size
        · refine (hkW.block _ hvl ?_).trans (hCr.rows _ hm)
          have := hCr.cb_ne.2 _ hm
          simp only at this hvl ⊢
          omega
        · refine ((hCr.deps _ hm).keep hkW (Nat.le_refl _) (fun b o sp e => ?_)).more hkW.size
          have := hCr.dne _ hm b ⟨o, sp, e⟩
          omega
        · have := HEL.out _ hm
          simp only at this
          omega
        · rintro r w' ⟨rfl, q⟩
          refine ⟨ret_bool ?_, q⟩
          unfold touchF
          congr 1
          funext d
          exact HTA.out d)
      have Q := Lib.hid q
      have HCr := Lib.hid hCr
      clear q hCr
      go_wp2_with fail
      refine Q.out.mono ?_
      rintro e w3 ⟨rfl, hm3, hk3⟩
      have hC3 := HCr.out.less hm3 List.filter_sublist hk3
      obtain ⟨d0, d1, d2⟩ := cell_of_cac hC3
      have hln3 := len_ent hC3
      have hfl : ((S.filter fun q => !touchF ds (E q.2)).length : Int) ≤ (S.length : Int) := by have := List.length_filter_le (fun q : ByteArray × Nat => !touchF ds (E q.2)) S; omega
      have HC3 := Lib.hid hC3
      have hv : (viewOf S E).filter (fun q => !(q.2.deps.any fun d => memB d ds)) = viewOf (S.filter fun q => !touchF ds (E q.2)) E := by
        unfold viewOf
        rw [List.filter_map]
        rfl
      have HV := Lib.hid hv
      have HSU : Hid (∀ p ∈ (S.filter fun q => !touchF ds (E q.2)), p ∈ S) := Lib.hid (fun p hp => (List.mem_filter.1 hp).1)
      clear hv hC3
      generalize (S.filter fun q => !touchF ds (E q.2)) = S3 at *
      go_wp2
      go_ret
      refine ⟨ret_int ?_, _, ⟨bs, S3, E, HC3.out, HV.out.symm, fun k => Iff.rfl⟩, ?_, ?_⟩
      · rw [HV.out]; simp [viewOf]
      · refine (Keeps.ofBelow hb (cacFoot cb bs S E)).trans hk3 (fun k hk e => ?_)
        rcases e with e | e
        · exact .inl (.inr (.inl e))
        · have := hb.size; omega
      · rintro k ((rfl | rfl | ⟨p, hp, rfl⟩) | ⟨p, hp, hk⟩)
        · exact .inl (.inl (.inl rfl))
        · exact .inl (.inl (.inr (.inl rfl)))
        · exact .inl (.inl (.inr (.inr ⟨p, HSU.out p hp, rfl⟩)))
        · exact .inl (.inr ⟨p, HSU.out p hp, hk⟩)
end Go.Proofs.Ytmigjlceogofaaa
