/- Plain law and walk of KinOrder. -/
import Derived.Test.YtbmkejiijkbmlaaPrY
import Derived.Deep.DeepCutAuto
namespace Go.Proofs.Ytbmkejiijkbmlaa
open Go.ChangeShapes Go.WideShapes Go.ChangeAt Go.RowKit Go.Shelf Go.Lib Go.Sort Go.Proofs
set_option linter.unusedVariables false
set_option linter.unusedSimpArgs false

theorem ThingsOf.unique {l T T' : List ByteArray} (h : ThingsOf l T) (h' : ThingsOf l T') : T = T' :=
  pairwise_ext sLt (fun x y h => sLt_asymm h) h.1 h'.1 (fun x => by rw [h.2, h'.2])
/-- None is more like one that is asked for than what is told. -/
theorem AmongOf.best {L : List (List ByteArray)} {T : List ByteArray} {floor : Int} {ms : List NearV} (h : AmongOf L T floor ms) {r : NearV} (hr : r ∈ ms) {a : ByteArray} (ha : a ∈ T) : a ≠ r.item ∧ (floor ≤ cnt2 L r.item a → likeNum L r.item a * r.den ≤ r.num * likeDen L r.item a) := by
  obtain ⟨b, -, ht, e1, e2⟩ := h.told hr
  have hne : a ≠ r.item := fun e => ht.1 (e ▸ ha)
  refine ⟨hne, fun hf => ?_⟩
  have hok := bestF_ok ((h.2 r).1 hr)
  have hc := like_comm L r.item a
  have hcc := cnt2_comm L r.item a
  rw [hc.1, hc.2]
  rw [hcc] at hf
  by_cases hp : 0 < pairF L a r.item
  · exact bestF_max ((h.2 r).1 hr) a ha ⟨ht.1, hp, hf⟩
  · have h0 : cnt2 L a r.item = 0 := by
      have := cnt2_le L a r.item
      unfold pairF at hp
      rw [if_neg hne] at hp
      omega
    have : likeNum L a r.item = 0 := by
      unfold likeNum
      rw [if_neg hne, h0]
      split <;> rfl
    rw [this, Int.zero_mul]
    exact Int.mul_nonneg hok.1 (by have := likeDen_pos L a r.item; omega)
theorem AmongOf.single {L : List (List ByteArray)} {T : List ByteArray} {floor : Int} {ms : List NearV} (h : AmongOf L T floor ms) {r : NearV} (hr : r ∈ ms) : cnt1 L r.item ≠ 0 := by
  obtain ⟨b, -, ht, -⟩ := h.told hr
  have h1 := ht.2.1
  have hc := cnt2_comm L r.item b
  obtain ⟨p, q, h2, -, -⟩ := cnt_parts L r.item b
  unfold pairF at h1
  split at h1
  · omega
  · omega
/-- A greater floor tells no others. -/
theorem AmongOf.more {L : List (List ByteArray)} {T : List ByteArray} {floor : Int} {ms zs : List NearV} (h : AmongOf L T floor ms) (hz : AmongOf L T (floor + 1) zs) {z : NearV} (hr : z ∈ zs) : z.item ∈ ms.map (·.item) := by
  obtain ⟨b, hb, ht, -⟩ := hz.told hr
  obtain ⟨⟨n, d⟩, he⟩ := bestF_ne (L := L) (T := T) (floor := floor) (x := z.item) hb ⟨ht.1, ht.2.1, by have := ht.2.2; omega⟩
  exact List.mem_map.2 ⟨⟨z.item, n, d⟩, (h.2 _).2 he, rfl⟩
theorem AmongOf.ok {L : List (List ByteArray)} {T : List ByteArray} {floor : Int} {ms : List NearV} (h : AmongOf L T floor ms) (hL : (L.length : Int) ≤ 100000) {r : NearV} (hr : r ∈ ms) : 0 ≤ r.num ∧ r.num ≤ 10000000000 ∧ 1 ≤ r.den ∧ r.den ≤ 10000000000 := by
  obtain ⟨b, -, -, e1, e2⟩ := h.told hr
  have h1 := likeNum_bd L b r.item hL
  have h2 := likeDen_bd L b r.item hL
  rw [e1, e2]
  exact ⟨h1.1, h1.2, h2.1, h2.2⟩
theorem AmongOf.size {L : List (List ByteArray)} {T : List ByteArray} {floor : Int} {ms : List NearV} (h : AmongOf L T floor ms) (hs : ∀ s ∈ L, ∀ x ∈ s, (x.size : Int) ≤ 100) {r : NearV} (hr : r ∈ ms) : r.item.size ≤ maxLen := by
  obtain ⟨b, -, ht, -⟩ := h.told hr
  have h1 := ht.2.1
  unfold pairF at h1
  split at h1
  · omega
  · unfold cnt2 at h1
    have h2 : 0 < L.countP (fun s => decide (b ∈ s ∧ r.item ∈ s)) := by omega
    obtain ⟨s, hs', h3⟩ := List.countP_pos_iff.1 h2
    have := hs s hs' _ (by simpa using h3 : b ∈ s ∧ r.item ∈ s).2
    unfold maxLen
    omega

def boolVf (b : Bool) : Value := .bool b
theorem zero_bool (w : World) : (zeroValue 4).run Try.prog w = .ok (.bool false) w := by kernel_rfl
theorem look_seen {w : World} {b : Nat} {r : List (ByteArray × Bool)} (h : MapIs w strKf boolVf strOk b r) {key : ByteArray} (hok : key.size ≤ maxLen) :
    (Instr.lookup 43 (.map (some b)) (.string key) false).run Try.prog w = .ok (.bool ((mget r key).getD false)) w := by
  have := h.look strKey Try.underlying43 zero_bool hok
  have e : ((mget r key).map boolVf).getD (.bool false) = .bool ((mget r key).getD false) := by cases mget r key <;> rfl
  rw [e] at this
  exact this
theorem put_seen {w : World} {b : Nat} {r : List (ByteArray × Bool)} (h : MapIs w strKf boolVf strOk b r) {key : ByteArray} (hok : key.size ≤ maxLen) :
    ∃ w', (Instr.mapUpdate 43 (.map (some b)) (.string key) (.bool true)).run Try.prog w = .ok () w' ∧ MapIs w' strKf boolVf strOk b (mput r key true) ∧ Keeps (fun q => q = b) w w' := by
  obtain ⟨w', h1, h2, h3, -⟩ := h.put strKey Try.underlying43 (x := key) hok true
  exact ⟨w', h1, h2, h3⟩

set_option maxRecDepth 20000 in
set_option maxHeartbeats 16000000 in
theorem korder_walk (A : Option Addr) (c : Nat) (l : List SessD) (A2 : Option Addr) (c2 : Nat) (items : List ByteArray) (n more floor : Int) (w : World) (hl : SessAt w w.heap.size A l) (hit : StrsAt w w.heap.size A2 items) (hlen : (l.length : Int) ≤ 9223372036854775807) (hleni : (items.length : Int) ≤ 9223372036854775807) :
    Calls Try.prog 6 #[.slice A l.length c, .slice A2 items.length c2, .int .i64 n, .int .i64 more, .int .i64 floor] w fun e w' => e = .returned (.bool true) ∧ Below w.heap.size w w' := by
  have HL := Lib.hid hl
  have HI := Lib.hid hit
  clear hl hit
  go_enter Try.func6, Try.ntmps6
  go_wp2_with fail
  refine Calls.mono (lives18_any w) ?_
  rintro e w1 ⟨rfl, hb1⟩
  go_wp2_with fail
  refine Calls.mono (few_any A c w.heap.size l w1 (HL.out.below hb1) hb1.size hlen) ?_
  rintro e w2 ⟨fw, rfl, hfew, hb2⟩
  have hb12 := hb1.trans (hb2.mono hb1.size)
  have HFEW := Lib.hid hfew
  clear hfew
  cases fw with
  | false =>
    go_wp2
    go_ret
    exact ⟨rfl, hb12⟩
  | true =>
  obtain ⟨f1, f2⟩ := HFEW.out rfl
  by_cases h1 : (20 : Int) < (items.length : Int)
  ·
    as_aux_lemma =>
      go_wp2
      go_ret
      exact ⟨rfl, hb12⟩
  by_cases h2 : n < 0
  ·
    as_aux_lemma =>
      go_wp2
      go_ret
      exact ⟨rfl, hb12⟩
  by_cases h3 : more < 0
  ·
    as_aux_lemma =>
      go_wp2
      go_ret
      exact ⟨rfl, hb12⟩
  by_cases h4 : 1000 < n
  ·
    as_aux_lemma =>
      go_wp2
      go_ret
      exact ⟨rfl, hb12⟩
  by_cases h5 : 1000 < more
  ·
    as_aux_lemma =>
      go_wp2
      go_ret
      exact ⟨rfl, hb12⟩
  by_cases h6 : floor < 0
  ·
    as_aux_lemma =>
      go_wp2
      go_ret
      exact ⟨rfl, hb12⟩
  by_cases h7 : 1000 < floor
  ·
    as_aux_lemma =>
      go_wp2
      go_ret
      exact ⟨rfl, hb12⟩
  have HF2 := Lib.hid f2
  clear f2 HFEW
  go_wp2_with fail
  refine Calls.mono (pof_any A c w.heap.size l w2 (HL.out.below hb12) hb12.size (by omega) (fun s hs => by have := (HF2.out s hs).1; omega)) ?_
  rintro e w3 ⟨pb, F, rfl, hO, hF, hb3⟩
  have hb13 := hb12.trans (hb3.mono hb12.size)
  have HP := Lib.hid hO.rd
  clear hO hF
  have hlS : ((itemsOf l).length : Int) ≤ 41 := by unfold itemsOf; rw [List.length_map]; omega
  have hlF : ((itemsOf l).flatten.length : Int) ≤ 820 := by have := flat_le (l := l) (fun s hs => (HF2.out s hs).1); omega
  have HSS : Hid (∀ s ∈ itemsOf l, ∀ x ∈ s, (x.size : Int) ≤ 100) := Lib.hid (fun s hs x hx => by
    unfold itemsOf at hs
    obtain ⟨t, ht, rfl⟩ := List.mem_map.1 hs
    exact (HF2.out t ht).2 x hx)
  obtain ⟨L, hLe⟩ : ∃ L, L = itemsOf l := ⟨_, rfl⟩
  rw [← hLe] at hlS hlF HSS HP
  clear hLe HF2
  have hai : ∀ n' fl W, Below w3.heap.size w3 W → n' ≤ 9223372036854775807 → Calls Try.prog 17 #[.pointer (some ⟨pb, 0, none⟩), .slice A2 items.length c2, .int .i64 n', .int .i64 fl] W (AmongNew W L items n' fl) := fun n' fl W hb hn => among_any pb F L A2 c2 w.heap.size items n' fl W ((PRd.own pb _).below HP.out hb) (HI.out.below (hb13.trans (hb.mono hb13.size))) (by have := hb13.size; have := hb.size; omega) (by omega) (by omega) (by omega) hn
  have QA := Lib.hid hai
  clear hai
  have wn : wrap64 (n + more) = n + more := by unfold wrap64; omega
  have wf : wrap64 (floor + 1) = floor + 1 := by unfold wrap64; omega
  go_wp2_with fail
  refine Calls.mono (QA.out n floor w3 (Below.refl _ _) (by omega)) ?_
  rintro e w4 ⟨A4, c4, T, ms, rfl, hT, hms, ho4, hb4⟩
  have HT := Lib.hid hT
  have HMS := Lib.hid hms
  have HO4 := Lib.hid ho4
  clear hT hms ho4
  go_wp2_with fail
  refine Calls.mono (QA.out (n + more) floor w4 hb4 (by omega)) ?_
  rintro e w5 ⟨A5, c5, T5, ms5, rfl, hT5, hms5, ho5, hb5⟩
  obtain rfl := HT.out.unique hT5
  obtain rfl := HMS.out.unique hms5
  have hb35 : Below w3.heap.size w3 w5 := hb4.trans (hb5.mono hb4.size)
  have HO5 := Lib.hid ho5
  have HB45 := Lib.hid hb5
  clear hT5 hms5 ho5
  go_wp2_with fail
  refine Calls.mono (QA.out 5000 (floor + 1) w5 hb35 (by omega)) ?_
  rintro e w6 ⟨A6, c6, T6, zs, rfl, hT6, hzs, ho6, hb6⟩
  obtain rfl := HT.out.unique hT6
  have hb36 : Below w3.heap.size w3 w6 := hb35.trans (hb6.mono hb35.size)
  have hzl := hzs.len
  have hml := HMS.out.len
  have hz5 : topN 5000 zs.length = zs.length := by unfold topN; omega
  rw [hz5] at ho6 ⊢
  rw [List.take_length] at ho6
  have hr6 := Reads.of_own ho6
  have hr5 := ((Reads.of_own HO5.out).below hb6).more hb6.size
  have hr4 := ((Reads.of_own HO4.out).below (hb5.trans (hb6.mono hb5.size))).more (Nat.le_trans hb5.size hb6.size)
  obtain ⟨xs, hxs⟩ : ∃ xs, xs = ms.take (topN n ms.length) := ⟨_, rfl⟩
  obtain ⟨ys, hys⟩ : ∃ ys, ys = ms.take (topN (n + more) ms.length) := ⟨_, rfl⟩
  have hxl : topN n ms.length = xs.length := by rw [hxs, List.length_take]; have := topN_le n ms.length; omega
  have hyl : topN (n + more) ms.length = ys.length := by rw [hys, List.length_take]; have := topN_le (n + more) ms.length; omega
  have hxn : (xs.length : Int) = min n (ms.length : Int) := by rw [← hxl]; unfold topN; omega
  have hyn : (ys.length : Int) = min (n + more) (ms.length : Int) := by rw [← hyl]; unfold topN; omega
  rw [← hxs, hxl] at hr4
  rw [← hys, hyl] at hr5
  rw [hxl, hyl]
  have hpre : ∀ k (hk : k < xs.length), ∃ hk' : k < ys.length, xs[k] = ys[k] := fun k hk => by
    have h0 : k < ys.length := by omega
    refine ⟨h0, ?_⟩
    simp only [hxs, hys, List.getElem_take]
  have hysub : ∀ r ∈ ys, r ∈ ms := fun r hr => by rw [hys] at hr; exact List.mem_of_mem_take hr
  have hypw : ys.Pairwise (fun x y => nearLt x y = true) := by rw [hys]; exact HMS.out.1.sublist (List.take_sublist _ _)
  have hynd : (ys.map (·.item)).Nodup := by rw [hys]; exact HMS.out.items.sublist ((List.take_sublist _ _).map _)
  have hgx : ¬ n < (xs.length : Int) := by omega
  have hmin : min n (ys.length : Int) = (xs.length : Int) := by omega
  have hyb : (ys.length : Int) ≤ 820 := by omega
  have hzb : (zs.length : Int) ≤ 820 := by omega
  have hmb : (ms.length : Int) ≤ 820 := by omega
  have HR6 := Lib.hid hr6
  have HR5 := Lib.hid hr5
  have HR4 := Lib.hid hr4
  have HPRE := Lib.hid hpre
  have HSUB := Lib.hid hysub
  have HPW := Lib.hid hypw
  have HND := Lib.hid hynd
  have HZS := Lib.hid hzs
  have HB36 := Lib.hid hb36
  have HXY := Lib.hid (And.intro hxn hyn)
  clear hr6 hr5 hr4 hpre hysub hypw hynd hzs hT6 ho6 hb4 hb5 hb6 hb35 HO4 HO5 HB45 hz5 hxs hys hxl hyl hxn hyn hzl hml
  have hmm := @run_makeMap Try.prog
  obtain ⟨W7, hW7⟩ : ∃ W7, W7 = w6.alloc (.map #[] 0) := ⟨_, rfl⟩
  have hb67 : Below w6.heap.size w6 W7 := by rw [hW7]; exact (Below.refl _ _).alloc (Nat.le_refl _) _
  have hm7 : MapIs W7 strKf boolVf strOk w6.heap.size [] := by rw [hW7]; exact MapIs.made w6 _ _ _
  have HM7 := Lib.hid hm7
  clear hm7 h1 h2 h3 h4 h5 h6 h7
  go_wp2_with fail
  rw [← hW7]
  clear hW7 hmm
  obtain ⟨sb, hsb⟩ : ∃ sb, sb = w6.heap.size := ⟨_, rfl⟩
  have HSB := Lib.hid hsb
  rw [← hsb] at HM7 ⊢
  clear hsb
  have HB67 := Lib.hid hb67
  clear hb67
  go_loopg [16] ys.length (fun rest i wr => ∃ (k : Nat) (M : List (ByteArray × Bool)), i = .int .i64 k ∧ Hid (k + rest = ys.length) ∧ Hid (MapIs wr strKf boolVf strOk sb M ∧ ∀ x, mget M x = if x ∈ (ys.take k).map (·.item) then some true else none) ∧ Hid (Keeps (fun q => q = sb) W7 wr))
  case atStart => exact ⟨0, [], rfl, Lib.hid (by simp), Lib.hid ⟨HM7.out, fun x => by simp [mget]⟩, Lib.hid (Keeps.refl _ _)⟩
  case round =>
    clear HM7
    obtain ⟨k, M, rfl, HK, HM, HKP⟩ := hrel
    obtain ⟨w8, rfl⟩ : ∃ w8 : World, w8 = wr := ⟨_, rfl⟩
    have hb68 : Below w6.heap.size w6 w8 := HB67.out.trans (HKP.out.toBelow HB67.out.size (fun q hq => by rw [hq]; exact Nat.le_of_eq HSB.out.symm))
    have hb38 : Below w3.heap.size w3 w8 := HB36.out.trans (hb68.mono HB36.out.size)
    have HB38 := Lib.hid hb38
    have HB68 := Lib.hid hb68
    clear hb68
    by_cases hk : (k : Int) < (ys.length : Int)
    · have hkl : k < ys.length := by omega
      obtain ⟨py, oy, rfl, hpy, u0, u1, u2⟩ := near_at (HR5.out.below HB68.out) hkl
      have hym := HSUB.out _ (List.getElem_mem hkl)
      have hnot : ys[k].item ∉ (ys.take k).map (·.item) := fun hin => by
        have hn := HND.out
        have e3 : ys.map (·.item) = (ys.take k).map (·.item) ++ (ys.drop k).map (·.item) := by rw [← List.map_append, List.take_append_drop]
        rw [e3, List.nodup_append] at hn
        exact hn.2.2 _ hin _ (List.mem_map.2 ⟨ys[k], by rw [List.drop_eq_getElem_cons hkl]; exact List.mem_cons_self, rfl⟩) rfl
      have htk : (ys.take (k + 1)).map (·.item) = (ys.take k).map (·.item) ++ [ys[k].item] := by
        rw [List.take_succ_eq_append_getElem hkl, List.map_append]; rfl
      have hord : ∀ k' (h : k = k' + 1), nearLt (ys[k']'(by omega)) ys[k] = true := fun k' h => by
        subst h
        exact List.pairwise_iff_getElem.1 HPW.out k' (k' + 1) (by omega) hkl (by omega)
      have hok := HMS.out.ok (by omega) hym
      have hsz := HMS.out.size HSS.out hym
      have hs0 := HMS.out.single hym
      have hbest := fun a (ha : a ∈ T) => HMS.out.best hym ha
      have hxc : ∀ hkx : k < xs.length, ∃ px ox, A4 = some ⟨px, ox, none⟩ ∧ px < w6.heap.size ∧ w8.cell? ⟨px, ox + k * 3, none⟩ = some (.string ys[k].item) ∧ w8.cell? ⟨px, ox + k * 3 + 1, none⟩ = some (.int .i64 ys[k].num) ∧ w8.cell? ⟨px, ox + k * 3 + 2, none⟩ = some (.int .i64 ys[k].den) := fun hkx => by
        obtain ⟨h', e⟩ := HPRE.out k hkx
        obtain ⟨px, ox, e1, h1, h2, h3, h4⟩ := near_at (HR4.out.below HB68.out) hkx
        rw [e] at h2 h3 h4
        exact ⟨px, ox, e1, h1, h2, h3, h4⟩
      have hpc : ∀ k' (h : k = k' + 1), w8.cell? ⟨py, oy + k' * 3, none⟩ = some (.string (ys[k']'(by omega)).item) ∧ w8.cell? ⟨py, oy + k' * 3 + 1, none⟩ = some (.int .i64 (ys[k']'(by omega)).num) ∧ w8.cell? ⟨py, oy + k' * 3 + 2, none⟩ = some (.int .i64 (ys[k']'(by omega)).den) ∧ 0 ≤ (ys[k']'(by omega)).num ∧ (ys[k']'(by omega)).num ≤ 10000000000 ∧ 1 ≤ (ys[k']'(by omega)).den ∧ (ys[k']'(by omega)).den ≤ 10000000000 := fun k' h => by
        obtain ⟨p1, o1, e1, h1, h2, h3, h4⟩ := near_at (HR5.out.below HB68.out) (show k' < ys.length by omega)
        injection e1 with e1
        injection e1 with e1 e2
        subst e1 e2
        exact ⟨h2, h3, h4, HMS.out.ok (by omega) (HSUB.out _ (List.getElem_mem (show k' < ys.length by omega)))⟩
      have hpr : ∀ k' (h : k = k' + 1), ∃ z : NearV, nearLt z ys[k] = true ∧ w8.cell? ⟨py, oy + k' * 3, none⟩ = some (.string z.item) ∧ w8.cell? ⟨py, oy + k' * 3 + 1, none⟩ = some (.int .i64 z.num) ∧ w8.cell? ⟨py, oy + k' * 3 + 2, none⟩ = some (.int .i64 z.den) ∧ 0 ≤ z.num ∧ z.num ≤ 10000000000 ∧ 1 ≤ z.den ∧ z.den ≤ 10000000000 := fun k' h => ⟨_, hord k' h, hpc k' h⟩
      clear hord hpc
      generalize ys[k] = y at *
      obtain ⟨it, nn, dd⟩ := y
      simp only at u0 u1 u2 hnot htk hok hsz hs0 hbest hxc hpr
      obtain ⟨g1, g2, g3, g4⟩ := hok
      have HXC := Lib.hid hxc
      have HPR := Lib.hid hpr
      have HBE := Lib.hid hbest
      have HTK := Lib.hid htk
      have hlook : ∀ q, (Instr.lookup 43 (.map (some sb)) (.string it) false).run Try.prog (w8.drewN q) = .ok (.bool false) (w8.drewN q) := fun q => by
        have := look_seen (HM.out.1.drewN q) (key := it) hsz
        rw [HM.out.2, if_neg hnot] at this
        exact this
      have hlook0 : (Instr.lookup 43 (.map (some sb)) (.string it) false).run Try.prog w8 = .ok (.bool false) w8 := hlook 0
      have hget : ∀ x, mget (mput M it true) x = if x ∈ (ys.take (k + 1)).map (·.item) then some true else none := fun x => by
        rw [mget_mput, HM.out.2, HTK.out]
        by_cases e : x = it
        · simp [e]
        · simp [e]
      have HGET := Lib.hid hget
      have HSZ := Lib.hid hsz
      have hsing := fun q => single_get pb F L it (w8.drewN q) ((PRd.own pb _).below HP.out (below_drewN HB38.out q)) hsz
      have hz1 : ¬ cnt1 L it = 0 := hs0
      have hz2 : (cnt1 L it == 0) = false := by simp [hs0]
      have QS := Lib.hid hsing
      have E := fun W => eql_near it it nn dd nn dd W
      have hkle : (k : Int) ≤ 820 := by omega
      clear hnot htk hxc hpr hbest hget hsing hb38 hym hs0
      generalize cnt1 L it = sn at *
      go_upto_region 15 with fail
      go_cut [130] (fun s130 wx => s130 = .bool false ∧ ∃ q, wx = w8.drewN q)
      case first =>
        as_aux_lemma =>
          by_cases hkx : (k : Int) < (xs.length : Int)
          · obtain ⟨px, ox, rfl, hpx, v0, v1, v2⟩ := HXC.out (by omega)
            go_wp2_with fail
            go_quiet ((go_at_call 18; exact Calls.quiet_of_same (QS.out _)))
            all_goals go_wp2_with fail
            all_goals go_meet
            all_goals exact ⟨rfl, _, rfl⟩
          · have z1 : ¬ k < xs.length := by omega
            have z2 : xs.length ≤ k := by omega
            have z3 : decide ((k : Int) < (xs.length : Int)) = false := by simpa using z2
            have z4 : decide (k < xs.length) = false := by simpa using z2
            go_wp2_with fail
            go_quiet ((go_at_call 18; exact Calls.quiet_of_same (QS.out _)))
            all_goals go_wp2_with fail
            all_goals go_meet
            all_goals exact ⟨rfl, _, rfl⟩
      case rest =>
        obtain ⟨rfl, q0, rfl⟩ := hcut
        obtain ⟨w10, hrun, hM10, hk10⟩ := put_seen (HM.out.1.drewN q0) (key := it) HSZ.out
        have HM10 := Lib.hid (And.intro hM10 HGET.out)
        have HK10 := Lib.hid hk10
        clear hM10 hk10
        have HCY : Hid (∀ W, Below w6.heap.size w8 W → W.cell? ⟨py, oy + k * 3, none⟩ = some (.string it) ∧ W.cell? ⟨py, oy + k * 3 + 1, none⟩ = some (.int .i64 nn) ∧ W.cell? ⟨py, oy + k * 3 + 2, none⟩ = some (.int .i64 dd)) := Lib.hid (fun W hb => ⟨(hb.cell (p := ⟨py, oy + k * 3, none⟩) hpy).trans u0, (hb.cell (p := ⟨py, oy + k * 3 + 1, none⟩) hpy).trans u1, (hb.cell (p := ⟨py, oy + k * 3 + 2, none⟩) hpy).trans u2⟩)
        have hb810 : Below w6.heap.size w8 w10 := ((below_drewN (Below.refl w6.heap.size w8) q0).trans (HK10.out.toBelow HB68.out.size (fun q hq => by rw [hq]; exact Nat.le_of_eq HSB.out.symm)))
        have HB810 := Lib.hid hb810
        have HZ8 := Lib.hid HB68.out.size
        clear hb810 hlook hlook0 E QS hz1 hz2
        go_upto_if 138 with fail
        clear hrun u0 u1 u2
        go_cut [] (fun wx => Below w10.heap.size w10 wx)
        case first =>
          as_aux_lemma =>
            by_cases hk0 : k = 0
            · have z1 : decide (0 < (k : Int)) = false := by simp; omega
              have z2 : ¬ 0 < k := by omega
              have z3 : decide (0 < k) = false := by simpa using z2
              have z4 : ¬ 0 < (k : Int) := by omega
              clear hk0
              go_wp2_with fail
              go_meet
              exact Below.refl _ _
            · obtain ⟨z, hzl, y0, y1, y2, z1, z2, z3, z4⟩ := HPR.out (k - 1) (by omega)
              rw [nearLt_iff] at hzl
              obtain ⟨u0, u1, u2⟩ := HCY.out w10 HB810.out
              have hx := fun q : Nat => HB810.out.cell (p := ⟨py, oy + (k - 1) * 3 + q, none⟩) hpy
              have x0 : w10.cell? ⟨py, oy + (k - 1) * 3, none⟩ = some (.string z.item) := (hx 0).trans y0
              have x1 : w10.cell? ⟨py, oy + (k - 1) * 3 + 1, none⟩ = some (.int .i64 z.num) := (hx 1).trans y1
              have x2 : w10.cell? ⟨py, oy + (k - 1) * 3 + 2, none⟩ = some (.int .i64 z.den) := (hx 2).trans y2
              have hpy10 : py < w10.heap.size := by have := HB810.out.size; have := HZ8.out; omega
              clear y0 y1 y2 hx
              obtain ⟨zi, zn, zd⟩ := z
              simp only at hzl x0 x1 x2 z1 z2 z3 z4
              have qc := compare_any zn zd nn dd (by omega) (by omega) (by omega) (by omega) (by omega) (by omega) (by omega) (by omega) w10.drew
              have hcc : 0 ≤ cmpInt (zn * dd) (nn * zd) ∧ (cmpInt (zn * dd) (nn * zd) = 0 → Op.bytesLess zi.toList it.toList = true) := by
                rcases cmpInt_casesK (zn * dd) (nn * zd) with ⟨c1, e1⟩ | ⟨c1, e1⟩ | ⟨c1, e1⟩ <;> rw [e1]
                · omega
                · refine ⟨by omega, fun _ => ?_⟩
                  rcases hzl with h | ⟨-, h⟩
                  · omega
                  · exact h
                · exact ⟨by omega, fun h => by omega⟩
              generalize cmpInt (zn * dd) (nn * zd) = cc at *
              have QC := Lib.hid qc
              have HCC := Lib.hid hcc.2
              have hc0 := hcc.1
              have p1 : (1 : Int) ≤ (k : Int) := by omega
              have p5 : (k : Int) - 1 < (ys.length : Int) := by omega
              have p2 : 0 < k := by omega
              have p3 : decide (0 < (k : Int)) = true := by simpa using p2
              have p4 : decide (0 < k) = true := by simpa using p2
              have hj3 : ((k : Int) - 1).toNat = k - 1 := by omega
              have hw1 : IntKind.i64.wrap ((k : Int) - 1) = (k : Int) - 1 := IntWalk.i64_in _ (by omega)
              have HK5 : Hid (∀ W, Below w10.heap.size w10 W → W.cell? ⟨py, oy + (k - 1) * 3, none⟩ = some (.string zi) ∧ W.cell? ⟨py, oy + (k - 1) * 3 + 1, none⟩ = some (.int .i64 zn) ∧ W.cell? ⟨py, oy + (k - 1) * 3 + 2, none⟩ = some (.int .i64 zd) ∧ W.cell? ⟨py, oy + k * 3, none⟩ = some (.string it) ∧ W.cell? ⟨py, oy + k * 3 + 1, none⟩ = some (.int .i64 nn) ∧ W.cell? ⟨py, oy + k * 3 + 2, none⟩ = some (.int .i64 dd)) := Lib.hid (fun W hb => ⟨(hb.cell (p := ⟨py, oy + (k - 1) * 3, none⟩) hpy10).trans x0, (hb.cell (p := ⟨py, oy + (k - 1) * 3 + 1, none⟩) hpy10).trans x1, (hb.cell (p := ⟨py, oy + (k - 1) * 3 + 2, none⟩) hpy10).trans x2, (hb.cell (p := ⟨py, oy + k * 3, none⟩) hpy10).trans u0, (hb.cell (p := ⟨py, oy + k * 3 + 1, none⟩) hpy10).trans u1, (hb.cell (p := ⟨py, oy + k * 3 + 2, none⟩) hpy10).trans u2⟩)
              have HBX : Hid (Below w10.heap.size w10 w10.drew) := Lib.hid ((Below.refl _ _).drew)
              clear qc hcc hk0 hzl u0 u1 u2 x0 x1 x2
              go_wp2_with fail
              refine heldStart 12 (S := fun W => W.cell? ⟨py, oy + (k - 1) * 3, none⟩ = some (.string zi) ∧ W.cell? ⟨py, oy + (k - 1) * 3 + 1, none⟩ = some (.int .i64 zn) ∧ W.cell? ⟨py, oy + (k - 1) * 3 + 2, none⟩ = some (.int .i64 zd) ∧ W.cell? ⟨py, oy + k * 3, none⟩ = some (.string it) ∧ W.cell? ⟨py, oy + k * 3 + 1, none⟩ = some (.int .i64 nn) ∧ W.cell? ⟨py, oy + k * 3 + 2, none⟩ = some (.int .i64 dd)) (by as_aux_lemma => kernel_rfl) ?_ (fun hHeld => ?_)
              · exact HK5.out _ HBX.out
              refine heldTake 0 (v := ?_) (by simp only [List.getElem?_toArray, List.getElem?_cons_succ, List.getElem?_cons_zero]; rfl) (by as_aux_lemma => kernel_rfl) (by intro _ _ _ h; exact h) (by rfl) (by assumption) ?_ ?_
              rotate_left
              · intro W hSw; (try dsimp only at hSw); go_simp; try with_reducible rfl
              simp only [Act.put, List.setIfInBounds_toArray, List.set_cons_zero, List.set_cons_succ]
              refine heldTake 1 (v := ?_) (by simp only [List.getElem?_toArray, List.getElem?_cons_succ, List.getElem?_cons_zero]; rfl) (by as_aux_lemma => kernel_rfl) (by intro _ _ _ h; exact h) (by rfl) (by assumption) ?_ ?_
              rotate_left
              · intro W hSw; (try dsimp only at hSw); go_simp; try with_reducible rfl
              simp only [Act.put, List.setIfInBounds_toArray, List.set_cons_zero, List.set_cons_succ]
              refine heldTake 2 (v := ?_) (by simp only [List.getElem?_toArray, List.getElem?_cons_succ, List.getElem?_cons_zero]; rfl) (by as_aux_lemma => kernel_rfl) (by intro _ _ _ h; exact h) (by rfl) (by assumption) ?_ ?_
              rotate_left
              · intro W hSw; (try dsimp only at hSw); go_simp; try with_reducible rfl
              simp only [Act.put, List.setIfInBounds_toArray, List.set_cons_zero, List.set_cons_succ]
              refine heldTake 3 (v := ?_) (by simp only [List.getElem?_toArray, List.getElem?_cons_succ, List.getElem?_cons_zero]; rfl) (by as_aux_lemma => kernel_rfl) (by intro _ _ _ h; exact h) (by rfl) (by assumption) ?_ ?_
              rotate_left
              · intro W hSw; (try dsimp only at hSw); go_simp; try with_reducible rfl
              simp only [Act.put, List.setIfInBounds_toArray, List.set_cons_zero, List.set_cons_succ]
              refine heldTake 4 (v := ?_) (by simp only [List.getElem?_toArray, List.getElem?_cons_succ, List.getElem?_cons_zero]; rfl) (by as_aux_lemma => kernel_rfl) (by intro _ _ _ h; exact h) (by rfl) (by assumption) ?_ ?_
              rotate_left
              · intro W hSw; (try dsimp only at hSw); go_simp; try with_reducible rfl
              simp only [Act.put, List.setIfInBounds_toArray, List.set_cons_zero, List.set_cons_succ]
              refine heldTake 5 (v := ?_) (by simp only [List.getElem?_toArray, List.getElem?_cons_succ, List.getElem?_cons_zero]; rfl) (by as_aux_lemma => kernel_rfl) (by intro _ _ _ h; exact h) (by rfl) (by assumption) ?_ ?_
              rotate_left
              · intro W hSw; (try dsimp only at hSw); go_simp; try with_reducible rfl
              simp only [Act.put, List.setIfInBounds_toArray, List.set_cons_zero, List.set_cons_succ]
              refine heldTake 6 (v := ?_) (by simp only [List.getElem?_toArray, List.getElem?_cons_succ, List.getElem?_cons_zero]; rfl) (by as_aux_lemma => kernel_rfl) (by intro _ _ _ h; exact h) (by rfl) (by assumption) ?_ ?_
              rotate_left
              · intro W hSw; (try dsimp only at hSw); go_simp; try with_reducible rfl
              simp only [Act.put, List.setIfInBounds_toArray, List.set_cons_zero, List.set_cons_succ]
              refine heldTake 7 (v := ?_) (by simp only [List.getElem?_toArray, List.getElem?_cons_succ, List.getElem?_cons_zero]; rfl) (by as_aux_lemma => kernel_rfl) (by intro _ _ _ h; exact h) (by rfl) (by assumption) ?_ ?_
              rotate_left
              · intro W hSw; (try dsimp only at hSw); go_simp; try with_reducible rfl
              simp only [Act.put, List.setIfInBounds_toArray, List.set_cons_zero, List.set_cons_succ]
              refine heldTake 8 (v := ?_) (by simp only [List.getElem?_toArray, List.getElem?_cons_succ, List.getElem?_cons_zero]; rfl) (by as_aux_lemma => kernel_rfl) (by intro _ _ _ h; exact h) (by rfl) (by assumption) ?_ ?_
              rotate_left
              · intro W hSw; (try dsimp only at hSw); go_simp; try with_reducible rfl
              simp only [Act.put, List.setIfInBounds_toArray, List.set_cons_zero, List.set_cons_succ]
              refine heldTake 9 (v := ?_) (by simp only [List.getElem?_toArray, List.getElem?_cons_succ, List.getElem?_cons_zero]; rfl) (by as_aux_lemma => kernel_rfl) (by intro _ _ _ h; exact h) (by rfl) (by assumption) ?_ ?_
              rotate_left
              · intro W hSw; (try dsimp only at hSw); go_simp; try with_reducible rfl
              simp only [Act.put, List.setIfInBounds_toArray, List.set_cons_zero, List.set_cons_succ]
              refine heldTake 10 (v := ?_) (by simp only [List.getElem?_toArray, List.getElem?_cons_succ, List.getElem?_cons_zero]; rfl) (by as_aux_lemma => kernel_rfl) (by intro _ _ _ h; exact h) (by rfl) (by assumption) ?_ ?_
              rotate_left
              · intro W hSw; (try dsimp only at hSw); go_simp; try with_reducible rfl
              simp only [Act.put, List.setIfInBounds_toArray, List.set_cons_zero, List.set_cons_succ]
              refine heldCall 11 (by simp only [List.getElem?_toArray, List.getElem?_cons_succ, List.getElem?_cons_zero]; rfl) (by as_aux_lemma => kernel_rfl) (fun K hK => ?_)
              go_simp
              refine Calls.mono QC.out ?_
              rintro e w11 ⟨rfl, hg⟩
              have hbx := Lib.hid (HBX.out.trans (hg.below.mono HBX.out.size))
              clear HBX
              have HBX := hbx
              clear hbx hg
              go_wp2_with fail
              refine hK.out _ _ ?_ (fun hHeld => ?_)
              · exact HK5.out _ HBX.out
              clear hK K
              (try simp only [Act.put, List.setIfInBounds_toArray, List.set_cons_zero, List.set_cons_succ])
              refine heldTake 12 (v := ?_) (by simp only [List.getElem?_toArray, List.getElem?_cons_succ, List.getElem?_cons_zero]; rfl) (by as_aux_lemma => kernel_rfl) (by intro _ _ _ h; exact h) (by rfl) (by assumption) ?_ ?_
              rotate_left
              · intro W hSw; (try dsimp only at hSw); go_simp; try with_reducible rfl
              simp only [Act.put, List.setIfInBounds_toArray, List.set_cons_zero, List.set_cons_succ]
              refine heldDone (by as_aux_lemma => kernel_rfl) ?_ _
              obtain ⟨x0, x1, x2, u0, u1, u2⟩ := HK5.out _ HBX.out
              have HBY : Hid (Below w10.heap.size w10 w11) := HBX
              by_cases hc : cc = 0
              · have hbl := HCC.out hc
                have n1 : (cc == 0) = true := by simp [hc]
                have n2 : ¬ cc < 0 := by omega
                have n3 : decide (cc < 0) = false := by simpa using hc0
                clear hc
                go_wp2_with fail
                go_quiet (fail)
                all_goals go_wp2_with fail
                all_goals go_meet
                all_goals exact below_drewN HBY.out _
              · have n1 : (cc == 0) = false := by simpa using hc
                have n2 : ¬ cc < 0 := by omega
                have n3 : decide (cc < 0) = false := by simpa using hc0
                go_wp2_with fail
                go_quiet (fail)
                all_goals go_wp2_with fail
                all_goals go_meet
                all_goals exact below_drewN HBY.out _
        case rest =>
          obtain ⟨w11, hwc⟩ : ∃ w11 : World, w11 = wc := ⟨_, rfl⟩
          rw [← hwc] at hcut ⊢
          clear hwc
          have HB11 := Lib.hid hcut
          have hb811 : Below w6.heap.size w8 w11 := HB810.out.trans (hcut.mono (by have := HB810.out.size; have := HZ8.out; omega))
          have HB811 := Lib.hid hb811
          have hb311 : Below w3.heap.size w3 w11 := HB38.out.trans (hb811.mono HB36.out.size |> fun h => h.mono (by exact Nat.le_refl _))
          have HB311 := Lib.hid hb311
          have HBW := Lib.hid (hb13.trans (hb311.mono hb13.size))
          clear hcut hb811 hb311
          have hil2 : (items.length : Int) ≤ 20 := by omega
          generalize gk = g1 at *
          go_wp2_with fail
          (try go_frame)
          go_loopg [18] items.length (fun rest s18 wx => ∃ j : Nat, s18 = .int .i64 j ∧ Hid (j + rest = items.length) ∧ (j : Int) ≤ 20 ∧ Hid (Below w11.heap.size w11 wx))
          case atStart => exact ⟨0, rfl, Lib.hid (by simp), by omega, Lib.hid (Below.refl _ _)⟩
          case round =>
            obtain ⟨j, rfl, HJ, hj0, HBX⟩ := hrel
            by_cases hj : (j : Int) < (items.length : Int)
            · have hjl : j < items.length := by omega
              have hBwr : Below w.heap.size w wr := HBW.out.trans (HBX.out.mono HBW.out.size)
              obtain ⟨bi, oi, rfl, hbi, v0, -⟩ := (HI.out.below hBwr).one hjl
              have has := HI.out.2 _ (List.getElem_mem hjl)
              have haT : items[j] ∈ T := (HT.out.2 _).2 (List.getElem_mem hjl)
              obtain ⟨hne, hle⟩ := HBE.out _ haT
              have bd1 := likeNum_bd L it items[j] (by omega)
              have bd2 := likeDen_bd L it items[j] (by omega)
              have q1 := like_any pb F L it items[j] wr.drew ((PRd.own pb _).below HP.out ((HB311.out.trans (HBX.out.mono HB311.out.size)).drew)) HSZ.out has (by omega)
              have q3 := fun W (hW : Below wr.heap.size wr W) => count_get pb F L it items[j] W ((PRd.own pb _).below HP.out ((HB311.out.trans (HBX.out.mono HB311.out.size)).trans (hW.mono (by have := HB311.out.size; have := HBX.out.size; omega)))) HSZ.out has
              have Q1 := Lib.hid q1
              have Q3 := Lib.hid q3
              clear q1 q3 haT
              generalize items[j] = a at *
              have n1 : (a.toList == it.toList) = false := by rw [str_beq]; exact decide_eq_false hne
              generalize likeNum L it a = ln at *
              generalize likeDen L it a = ld at *
              generalize cnt2 L it a = ct at *
              have q2 := fun W => compare_any ln ld nn dd (by omega) (by omega) (by omega) (by omega) (by omega) (by omega) (by omega) (by omega) W
              have hcc : 0 < cmpInt (ln * dd) (nn * ld) → ¬ floor ≤ ct := fun h => by
                rcases cmpInt_casesK (ln * dd) (nn * ld) with ⟨c1, e1⟩ | ⟨c1, e1⟩ | ⟨c1, e1⟩
                · rw [e1] at h; omega
                · rw [e1] at h; omega
                · intro h2
                  have := hle h2
                  omega
              generalize cmpInt (ln * dd) (nn * ld) = cc at *
              have Q2 := Lib.hid q2
              have hcy : ∀ W, Below wr.heap.size wr W → W.cell? ⟨bi, oi + j, none⟩ = some (.string a) ∧ W.cell? ⟨py, oy + k * 3, none⟩ = some (.string it) ∧ W.cell? ⟨py, oy + k * 3 + 1, none⟩ = some (.int .i64 nn) ∧ W.cell? ⟨py, oy + k * 3 + 2, none⟩ = some (.int .i64 dd) := fun W hW => by
                have hb8 : Below w6.heap.size w8 W := HB811.out.trans ((HBX.out.mono (by have := HB811.out.size; have := HZ8.out; omega)).trans (hW.mono (by have := HB811.out.size; have := HZ8.out; have := HBX.out.size; omega)))
                exact ⟨(hW.cell (p := ⟨bi, oi + j, none⟩) (World.block_lt_of_cell? _ _ v0)).trans v0, HCY.out W hb8⟩
              have HC7 := Lib.hid hcy
              obtain ⟨x0, x1, x2, x3⟩ := hcy wr (Below.refl _ _)
              have HX := Lib.hid (Below.refl wr.heap.size wr).drew
              clear q2 hcy hle hne bd1 bd2 hBwr v0
              by_cases hc : 0 < cc
              ·
                as_aux_lemma =>
                  have n2 : ¬ floor ≤ ct := hcc hc
                  have n3 : decide (floor ≤ ct) = false := decide_eq_false n2
                  have n4 : decide (0 < cc) = true := decide_eq_true hc
                  go_wp2_with fail
                  refine heldStart 45 (S := fun W => W.cell? ⟨bi, oi + j, none⟩ = some (.string a) ∧ W.cell? ⟨py, oy + k * 3, none⟩ = some (.string it) ∧ W.cell? ⟨py, oy + k * 3 + 1, none⟩ = some (.int .i64 nn) ∧ W.cell? ⟨py, oy + k * 3 + 2, none⟩ = some (.int .i64 dd)) (by as_aux_lemma => kernel_rfl) ?_ (fun hHeld => ?_)
                  · exact HC7.out _ HX.out
                  refine heldTake 0 (v := ?_) (by simp only [List.getElem?_toArray, List.getElem?_cons_succ, List.getElem?_cons_zero]; rfl) (by as_aux_lemma => kernel_rfl) (by intro _ _ _ h; exact h) (by rfl) (by assumption) ?_ ?_
                  rotate_left
                  · intro W hSw; (try dsimp only at hSw); go_simp; try with_reducible rfl
                  simp only [Act.put, List.setIfInBounds_toArray, List.set_cons_zero, List.set_cons_succ]
                  refine heldTake 1 (v := ?_) (by simp only [List.getElem?_toArray, List.getElem?_cons_succ, List.getElem?_cons_zero]; rfl) (by as_aux_lemma => kernel_rfl) (by intro _ _ _ h; exact h) (by rfl) (by assumption) ?_ ?_
                  rotate_left
                  · intro W hSw; (try dsimp only at hSw); go_simp; try with_reducible rfl
                  simp only [Act.put, List.setIfInBounds_toArray, List.set_cons_zero, List.set_cons_succ]
                  refine heldTake 2 (v := ?_) (by simp only [List.getElem?_toArray, List.getElem?_cons_succ, List.getElem?_cons_zero]; rfl) (by as_aux_lemma => kernel_rfl) (by intro _ _ _ h; exact h) (by rfl) (by assumption) ?_ ?_
                  rotate_left
                  · intro W hSw; (try dsimp only at hSw); go_simp; try with_reducible rfl
                  simp only [Act.put, List.setIfInBounds_toArray, List.set_cons_zero, List.set_cons_succ]
                  refine heldTake 3 (v := ?_) (by simp only [List.getElem?_toArray, List.getElem?_cons_succ, List.getElem?_cons_zero]; rfl) (by as_aux_lemma => kernel_rfl) (by intro _ _ _ h; exact h) (by rfl) (by assumption) ?_ ?_
                  rotate_left
                  · intro W hSw; (try dsimp only at hSw); go_simp; try with_reducible rfl
                  simp only [Act.put, List.setIfInBounds_toArray, List.set_cons_zero, List.set_cons_succ]
                  refine heldTake 4 (v := ?_) (by simp only [List.getElem?_toArray, List.getElem?_cons_succ, List.getElem?_cons_zero]; rfl) (by as_aux_lemma => kernel_rfl) (by intro _ _ _ h; exact h) (by rfl) (by assumption) ?_ ?_
                  rotate_left
                  · intro W hSw; (try dsimp only at hSw); go_simp; try with_reducible rfl
                  simp only [Act.put, List.setIfInBounds_toArray, List.set_cons_zero, List.set_cons_succ]
                  refine heldTake 5 (v := ?_) (by simp only [List.getElem?_toArray, List.getElem?_cons_succ, List.getElem?_cons_zero]; rfl) (by as_aux_lemma => kernel_rfl) (by intro _ _ _ h; exact h) (by rfl) (by assumption) ?_ ?_
                  rotate_left
                  · intro W hSw; (try dsimp only at hSw); go_simp; try with_reducible rfl
                  simp only [Act.put, List.setIfInBounds_toArray, List.set_cons_zero, List.set_cons_succ]
                  refine heldTake 6 (v := ?_) (by simp only [List.getElem?_toArray, List.getElem?_cons_succ, List.getElem?_cons_zero]; rfl) (by as_aux_lemma => kernel_rfl) (by intro _ _ _ h; exact h) (by rfl) (by assumption) ?_ ?_
                  rotate_left
                  · intro W hSw; (try dsimp only at hSw); go_simp; try with_reducible rfl
                  simp only [Act.put, List.setIfInBounds_toArray, List.set_cons_zero, List.set_cons_succ]
                  refine heldTake 7 (v := ?_) (by simp only [List.getElem?_toArray, List.getElem?_cons_succ, List.getElem?_cons_zero]; rfl) (by as_aux_lemma => kernel_rfl) (by intro _ _ _ h; exact h) (by rfl) (by assumption) ?_ ?_
                  rotate_left
                  · intro W hSw; (try dsimp only at hSw); go_simp; try with_reducible rfl
                  simp only [Act.put, List.setIfInBounds_toArray, List.set_cons_zero, List.set_cons_succ]
                  refine heldTake 8 (v := ?_) (by simp only [List.getElem?_toArray, List.getElem?_cons_succ, List.getElem?_cons_zero]; rfl) (by as_aux_lemma => kernel_rfl) (by intro _ _ _ h; exact h) (by rfl) (by assumption) ?_ ?_
                  rotate_left
                  · intro W hSw; (try dsimp only at hSw); go_simp; try with_reducible rfl
                  simp only [Act.put, List.setIfInBounds_toArray, List.set_cons_zero, List.set_cons_succ]
                  refine heldTake 9 (v := ?_) (by simp only [List.getElem?_toArray, List.getElem?_cons_succ, List.getElem?_cons_zero]; rfl) (by as_aux_lemma => kernel_rfl) (by intro _ _ _ h; exact h) (by rfl) (by assumption) ?_ ?_
                  rotate_left
                  · intro W hSw; (try dsimp only at hSw); go_simp; try with_reducible rfl
                  simp only [Act.put, List.setIfInBounds_toArray, List.set_cons_zero, List.set_cons_succ]
                  refine heldTake 10 (v := ?_) (by simp only [List.getElem?_toArray, List.getElem?_cons_succ, List.getElem?_cons_zero]; rfl) (by as_aux_lemma => kernel_rfl) (by intro _ _ _ h; exact h) (by rfl) (by assumption) ?_ ?_
                  rotate_left
                  · intro W hSw; (try dsimp only at hSw); go_simp; try with_reducible rfl
                  simp only [Act.put, List.setIfInBounds_toArray, List.set_cons_zero, List.set_cons_succ]
                  refine heldTake 11 (v := ?_) (by simp only [List.getElem?_toArray, List.getElem?_cons_succ, List.getElem?_cons_zero]; rfl) (by as_aux_lemma => kernel_rfl) (by intro _ _ _ h; exact h) (by rfl) (by assumption) ?_ ?_
                  rotate_left
                  · intro W hSw; (try dsimp only at hSw); go_simp; try with_reducible rfl
                  simp only [Act.put, List.setIfInBounds_toArray, List.set_cons_zero, List.set_cons_succ]
                  refine heldTake 12 (v := ?_) (by simp only [List.getElem?_toArray, List.getElem?_cons_succ, List.getElem?_cons_zero]; rfl) (by as_aux_lemma => kernel_rfl) (by intro _ _ _ h; exact h) (by rfl) (by assumption) ?_ ?_
                  rotate_left
                  · intro W hSw; (try dsimp only at hSw); go_simp; try with_reducible rfl
                  simp only [Act.put, List.setIfInBounds_toArray, List.set_cons_zero, List.set_cons_succ]
                  refine heldTake 13 (v := ?_) (by simp only [List.getElem?_toArray, List.getElem?_cons_succ, List.getElem?_cons_zero]; rfl) (by as_aux_lemma => kernel_rfl) (by intro _ _ _ h; exact h) (by rfl) (by assumption) ?_ ?_
                  rotate_left
                  · intro W hSw; (try dsimp only at hSw); go_simp; try with_reducible rfl
                  simp only [Act.put, List.setIfInBounds_toArray, List.set_cons_zero, List.set_cons_succ]
                  refine heldTake 14 (v := ?_) (by simp only [List.getElem?_toArray, List.getElem?_cons_succ, List.getElem?_cons_zero]; rfl) (by as_aux_lemma => kernel_rfl) (by intro _ _ _ h; exact h) (by rfl) (by assumption) ?_ ?_
                  rotate_left
                  · intro W hSw; (try dsimp only at hSw); go_simp; try with_reducible rfl
                  simp only [Act.put, List.setIfInBounds_toArray, List.set_cons_zero, List.set_cons_succ]
                  refine heldTake 15 (v := ?_) (by simp only [List.getElem?_toArray, List.getElem?_cons_succ, List.getElem?_cons_zero]; rfl) (by as_aux_lemma => kernel_rfl) (by intro _ _ _ h; exact h) (by rfl) (by assumption) ?_ ?_
                  rotate_left
                  · intro W hSw; (try dsimp only at hSw); go_simp; try with_reducible rfl
                  simp only [Act.put, List.setIfInBounds_toArray, List.set_cons_zero, List.set_cons_succ]
                  refine heldTake 16 (v := ?_) (by simp only [List.getElem?_toArray, List.getElem?_cons_succ, List.getElem?_cons_zero]; rfl) (by as_aux_lemma => kernel_rfl) (by intro _ _ _ h; exact h) (by rfl) (by assumption) ?_ ?_
                  rotate_left
                  · intro W hSw; (try dsimp only at hSw); go_simp; try with_reducible rfl
                  simp only [Act.put, List.setIfInBounds_toArray, List.set_cons_zero, List.set_cons_succ]
                  refine heldTake 17 (v := ?_) (by simp only [List.getElem?_toArray, List.getElem?_cons_succ, List.getElem?_cons_zero]; rfl) (by as_aux_lemma => kernel_rfl) (by intro _ _ _ h; exact h) (by rfl) (by assumption) ?_ ?_
                  rotate_left
                  · intro W hSw; (try dsimp only at hSw); go_simp; try with_reducible rfl
                  simp only [Act.put, List.setIfInBounds_toArray, List.set_cons_zero, List.set_cons_succ]
                  refine heldTake 18 (v := ?_) (by simp only [List.getElem?_toArray, List.getElem?_cons_succ, List.getElem?_cons_zero]; rfl) (by as_aux_lemma => kernel_rfl) (by intro _ _ _ h; exact h) (by rfl) (by assumption) ?_ ?_
                  rotate_left
                  · intro W hSw; (try dsimp only at hSw); go_simp; try with_reducible rfl
                  simp only [Act.put, List.setIfInBounds_toArray, List.set_cons_zero, List.set_cons_succ]
                  refine heldTake 19 (v := ?_) (by simp only [List.getElem?_toArray, List.getElem?_cons_succ, List.getElem?_cons_zero]; rfl) (by as_aux_lemma => kernel_rfl) (by intro _ _ _ h; exact h) (by rfl) (by assumption) ?_ ?_
                  rotate_left
                  · intro W hSw; (try dsimp only at hSw); go_simp; try with_reducible rfl
                  simp only [Act.put, List.setIfInBounds_toArray, List.set_cons_zero, List.set_cons_succ]
                  refine heldTake 20 (v := ?_) (by simp only [List.getElem?_toArray, List.getElem?_cons_succ, List.getElem?_cons_zero]; rfl) (by as_aux_lemma => kernel_rfl) (by intro _ _ _ h; exact h) (by rfl) (by assumption) ?_ ?_
                  rotate_left
                  · intro W hSw; (try dsimp only at hSw); go_simp; try with_reducible rfl
                  simp only [Act.put, List.setIfInBounds_toArray, List.set_cons_zero, List.set_cons_succ]
                  refine heldTake 22 (v := ?_) (by simp only [List.getElem?_toArray, List.getElem?_cons_succ, List.getElem?_cons_zero]; rfl) (by as_aux_lemma => kernel_rfl) (by intro _ _ _ h; exact h) (by rfl) (by assumption) ?_ ?_
                  rotate_left
                  · intro W hSw; (try dsimp only at hSw); go_simp; try with_reducible rfl
                  simp only [Act.put, List.setIfInBounds_toArray, List.set_cons_zero, List.set_cons_succ]
                  refine heldTake 23 (v := ?_) (by simp only [List.getElem?_toArray, List.getElem?_cons_succ, List.getElem?_cons_zero]; rfl) (by as_aux_lemma => kernel_rfl) (by intro _ _ _ h; exact h) (by rfl) (by assumption) ?_ ?_
                  rotate_left
                  · intro W hSw; (try dsimp only at hSw); go_simp; try with_reducible rfl
                  simp only [Act.put, List.setIfInBounds_toArray, List.set_cons_zero, List.set_cons_succ]
                  refine heldTake 24 (v := ?_) (by simp only [List.getElem?_toArray, List.getElem?_cons_succ, List.getElem?_cons_zero]; rfl) (by as_aux_lemma => kernel_rfl) (by intro _ _ _ h; exact h) (by rfl) (by assumption) ?_ ?_
                  rotate_left
                  · intro W hSw; (try dsimp only at hSw); go_simp; try with_reducible rfl
                  simp only [Act.put, List.setIfInBounds_toArray, List.set_cons_zero, List.set_cons_succ]
                  refine heldTake 25 (v := ?_) (by simp only [List.getElem?_toArray, List.getElem?_cons_succ, List.getElem?_cons_zero]; rfl) (by as_aux_lemma => kernel_rfl) (by intro _ _ _ h; exact h) (by rfl) (by assumption) ?_ ?_
                  rotate_left
                  · intro W hSw; (try dsimp only at hSw); go_simp; try with_reducible rfl
                  simp only [Act.put, List.setIfInBounds_toArray, List.set_cons_zero, List.set_cons_succ]
                  refine heldTake 26 (v := ?_) (by simp only [List.getElem?_toArray, List.getElem?_cons_succ, List.getElem?_cons_zero]; rfl) (by as_aux_lemma => kernel_rfl) (by intro _ _ _ h; exact h) (by rfl) (by assumption) ?_ ?_
                  rotate_left
                  · intro W hSw; (try dsimp only at hSw); go_simp; try with_reducible rfl
                  simp only [Act.put, List.setIfInBounds_toArray, List.set_cons_zero, List.set_cons_succ]
                  refine heldCall 21 (by simp only [List.getElem?_toArray, List.getElem?_cons_succ, List.getElem?_cons_zero]; rfl) (by as_aux_lemma => kernel_rfl) (fun K hK => ?_)
                  go_simp
                  refine Calls.mono Q1.out ?_
                  rintro e v1 ⟨rfl, hbb⟩
                  have HX1 := Lib.hid (HX.out.trans (hbb.mono HX.out.size))
                  clear hbb HX
                  have HX := HX1
                  clear HX1
                  refine hK.out _ _ ?_ (fun hHeld => ?_)
                  · exact HC7.out _ HX.out
                  clear hK K
                  (try simp only [Act.put, List.setIfInBounds_toArray, List.set_cons_zero, List.set_cons_succ])
                  refine heldCall 27 (by simp only [List.getElem?_toArray, List.getElem?_cons_succ, List.getElem?_cons_zero]; rfl) (by as_aux_lemma => kernel_rfl) (fun K hK => ?_)
                  go_simp
                  refine Calls.mono (Q2.out _) ?_
                  rintro e v2 ⟨rfl, hg⟩
                  have HX1 := Lib.hid (HX.out.trans (hg.below.mono HX.out.size))
                  clear hg HX
                  have HX := HX1
                  clear HX1
                  refine hK.out _ _ ?_ (fun hHeld => ?_)
                  · exact HC7.out _ HX.out
                  clear hK K
                  (try simp only [Act.put, List.setIfInBounds_toArray, List.set_cons_zero, List.set_cons_succ])
                  refine heldTake 28 (v := ?_) (by simp only [List.getElem?_toArray, List.getElem?_cons_succ, List.getElem?_cons_zero]; rfl) (by as_aux_lemma => kernel_rfl) (by intro _ _ _ h; exact h) (by rfl) (by assumption) ?_ ?_
                  rotate_left
                  · intro W hSw; (try dsimp only at hSw); go_simp; try with_reducible rfl
                  simp only [Act.put, List.setIfInBounds_toArray, List.set_cons_zero, List.set_cons_succ]
                  refine heldTake 29 (v := ?_) (by simp only [List.getElem?_toArray, List.getElem?_cons_succ, List.getElem?_cons_zero]; rfl) (by as_aux_lemma => kernel_rfl) (by intro _ _ _ h; exact h) (by rfl) (by assumption) ?_ ?_
                  rotate_left
                  · intro W hSw; (try dsimp only at hSw); go_simp; try with_reducible rfl
                  simp only [Act.put, List.setIfInBounds_toArray, List.set_cons_zero, List.set_cons_succ]
                  refine heldTake 30 (v := ?_) (by simp only [List.getElem?_toArray, List.getElem?_cons_succ, List.getElem?_cons_zero]; rfl) (by as_aux_lemma => kernel_rfl) (by intro _ _ _ h; exact h) (by rfl) (by assumption) ?_ ?_
                  rotate_left
                  · intro W hSw; (try dsimp only at hSw); go_simp; try with_reducible rfl
                  simp only [Act.put, List.setIfInBounds_toArray, List.set_cons_zero, List.set_cons_succ]
                  refine heldTake 31 (v := ?_) (by simp only [List.getElem?_toArray, List.getElem?_cons_succ, List.getElem?_cons_zero]; rfl) (by as_aux_lemma => kernel_rfl) (by intro _ _ _ h; exact h) (by rfl) (by assumption) ?_ ?_
                  rotate_left
                  · intro W hSw; (try dsimp only at hSw); go_simp; try with_reducible rfl
                  simp only [Act.put, List.setIfInBounds_toArray, List.set_cons_zero, List.set_cons_succ]
                  refine heldTake 32 (v := ?_) (by simp only [List.getElem?_toArray, List.getElem?_cons_succ, List.getElem?_cons_zero]; rfl) (by as_aux_lemma => kernel_rfl) (by intro _ _ _ h; exact h) (by rfl) (by assumption) ?_ ?_
                  rotate_left
                  · intro W hSw; (try dsimp only at hSw); go_simp; try with_reducible rfl
                  simp only [Act.put, List.setIfInBounds_toArray, List.set_cons_zero, List.set_cons_succ]
                  refine heldTake 33 (v := ?_) (by simp only [List.getElem?_toArray, List.getElem?_cons_succ, List.getElem?_cons_zero]; rfl) (by as_aux_lemma => kernel_rfl) (by intro _ _ _ h; exact h) (by rfl) (by assumption) ?_ ?_
                  rotate_left
                  · intro W hSw; (try dsimp only at hSw); go_simp; try with_reducible rfl
                  simp only [Act.put, List.setIfInBounds_toArray, List.set_cons_zero, List.set_cons_succ]
                  refine heldTake 34 (v := ?_) (by simp only [List.getElem?_toArray, List.getElem?_cons_succ, List.getElem?_cons_zero]; rfl) (by as_aux_lemma => kernel_rfl) (by intro _ _ _ h; exact h) (by rfl) (by assumption) ?_ ?_
                  rotate_left
                  · intro W hSw; (try dsimp only at hSw); go_simp; try with_reducible rfl
                  simp only [Act.put, List.setIfInBounds_toArray, List.set_cons_zero, List.set_cons_succ]
                  refine heldTake 35 (v := ?_) (by simp only [List.getElem?_toArray, List.getElem?_cons_succ, List.getElem?_cons_zero]; rfl) (by as_aux_lemma => kernel_rfl) (by intro _ _ _ h; exact h) (by rfl) (by assumption) ?_ ?_
                  rotate_left
                  · intro W hSw; (try dsimp only at hSw); go_simp; try with_reducible rfl
                  simp only [Act.put, List.setIfInBounds_toArray, List.set_cons_zero, List.set_cons_succ]
                  refine heldTake 36 (v := ?_) (by simp only [List.getElem?_toArray, List.getElem?_cons_succ, List.getElem?_cons_zero]; rfl) (by as_aux_lemma => kernel_rfl) (by intro _ _ _ h; exact h) (by rfl) (by assumption) ?_ ?_
                  rotate_left
                  · intro W hSw; (try dsimp only at hSw); go_simp; try with_reducible rfl
                  simp only [Act.put, List.setIfInBounds_toArray, List.set_cons_zero, List.set_cons_succ]
                  refine heldTake 37 (v := ?_) (by simp only [List.getElem?_toArray, List.getElem?_cons_succ, List.getElem?_cons_zero]; rfl) (by as_aux_lemma => kernel_rfl) (by intro _ _ _ h; exact h) (by rfl) (by assumption) ?_ ?_
                  rotate_left
                  · intro W hSw; (try dsimp only at hSw); go_simp; try with_reducible rfl
                  simp only [Act.put, List.setIfInBounds_toArray, List.set_cons_zero, List.set_cons_succ]
                  refine heldTake 38 (v := ?_) (by simp only [List.getElem?_toArray, List.getElem?_cons_succ, List.getElem?_cons_zero]; rfl) (by as_aux_lemma => kernel_rfl) (by intro _ _ _ h; exact h) (by rfl) (by assumption) ?_ ?_
                  rotate_left
                  · intro W hSw; (try dsimp only at hSw); go_simp; try with_reducible rfl
                  simp only [Act.put, List.setIfInBounds_toArray, List.set_cons_zero, List.set_cons_succ]
                  refine heldTake 39 (v := ?_) (by simp only [List.getElem?_toArray, List.getElem?_cons_succ, List.getElem?_cons_zero]; rfl) (by as_aux_lemma => kernel_rfl) (by intro _ _ _ h; exact h) (by rfl) (by assumption) ?_ ?_
                  rotate_left
                  · intro W hSw; (try dsimp only at hSw); go_simp; try with_reducible rfl
                  simp only [Act.put, List.setIfInBounds_toArray, List.set_cons_zero, List.set_cons_succ]
                  refine heldTake 41 (v := ?_) (by simp only [List.getElem?_toArray, List.getElem?_cons_succ, List.getElem?_cons_zero]; rfl) (by as_aux_lemma => kernel_rfl) (by intro _ _ _ h; exact h) (by rfl) (by assumption) ?_ ?_
                  rotate_left
                  · intro W hSw; (try dsimp only at hSw); go_simp; try with_reducible rfl
                  simp only [Act.put, List.setIfInBounds_toArray, List.set_cons_zero, List.set_cons_succ]
                  refine heldCall 40 (by simp only [List.getElem?_toArray, List.getElem?_cons_succ, List.getElem?_cons_zero]; rfl) (by as_aux_lemma => kernel_rfl) (fun K hK => ?_)
                  go_simp
                  refine Calls.mono (Q3.out _ HX.out) ?_
                  rintro e v3 ⟨rfl, rfl⟩
                  refine hK.out _ _ ?_ (fun hHeld => ?_)
                  · exact HC7.out _ HX.out
                  clear hK K
                  (try simp only [Act.put, List.setIfInBounds_toArray, List.set_cons_zero, List.set_cons_succ])
                  refine heldTake 42 (v := ?_) (by simp only [List.getElem?_toArray, List.getElem?_cons_succ, List.getElem?_cons_zero]; rfl) (by as_aux_lemma => kernel_rfl) (by intro _ _ _ h; exact h) (by rfl) (by assumption) ?_ ?_
                  rotate_left
                  · intro W hSw; (try dsimp only at hSw); go_simp; try with_reducible rfl
                  simp only [Act.put, List.setIfInBounds_toArray, List.set_cons_zero, List.set_cons_succ]
                  refine heldTake 43 (v := ?_) (by simp only [List.getElem?_toArray, List.getElem?_cons_succ, List.getElem?_cons_zero]; rfl) (by as_aux_lemma => kernel_rfl) (by intro _ _ _ h; exact h) (by rfl) (by assumption) ?_ ?_
                  rotate_left
                  · intro W hSw; (try dsimp only at hSw); go_simp; try with_reducible rfl
                  simp only [Act.put, List.setIfInBounds_toArray, List.set_cons_zero, List.set_cons_succ]
                  refine heldTake 44 (v := ?_) (by simp only [List.getElem?_toArray, List.getElem?_cons_succ, List.getElem?_cons_zero]; rfl) (by as_aux_lemma => kernel_rfl) (by intro _ _ _ h; exact h) (by rfl) (by assumption) ?_ ?_
                  rotate_left
                  · intro W hSw; (try dsimp only at hSw); go_simp; try with_reducible rfl
                  simp only [Act.put, List.setIfInBounds_toArray, List.set_cons_zero, List.set_cons_succ]
                  refine heldDone (by as_aux_lemma => kernel_rfl) ?_ _
                  have HBF := Lib.hid (HBX.out.trans (HX.out.mono HBX.out.size))
                  go_wp2_with fail
                  go_roundg (gk - 1)
                  case measure => have := HJ.out; omega
                  case rel => exact ⟨j + 1, by go_num, Lib.hid (by have := HJ.out; omega), by omega, HBF⟩
              ·
                as_aux_lemma =>
                  have n4 : decide (0 < cc) = false := decide_eq_false hc
                  go_wp2_with fail
                  refine heldStart 45 (S := fun W => W.cell? ⟨bi, oi + j, none⟩ = some (.string a) ∧ W.cell? ⟨py, oy + k * 3, none⟩ = some (.string it) ∧ W.cell? ⟨py, oy + k * 3 + 1, none⟩ = some (.int .i64 nn) ∧ W.cell? ⟨py, oy + k * 3 + 2, none⟩ = some (.int .i64 dd)) (by as_aux_lemma => kernel_rfl) ?_ (fun hHeld => ?_)
                  · exact HC7.out _ HX.out
                  refine heldTake 0 (v := ?_) (by simp only [List.getElem?_toArray, List.getElem?_cons_succ, List.getElem?_cons_zero]; rfl) (by as_aux_lemma => kernel_rfl) (by intro _ _ _ h; exact h) (by rfl) (by assumption) ?_ ?_
                  rotate_left
                  · intro W hSw; (try dsimp only at hSw); go_simp; try with_reducible rfl
                  simp only [Act.put, List.setIfInBounds_toArray, List.set_cons_zero, List.set_cons_succ]
                  refine heldTake 1 (v := ?_) (by simp only [List.getElem?_toArray, List.getElem?_cons_succ, List.getElem?_cons_zero]; rfl) (by as_aux_lemma => kernel_rfl) (by intro _ _ _ h; exact h) (by rfl) (by assumption) ?_ ?_
                  rotate_left
                  · intro W hSw; (try dsimp only at hSw); go_simp; try with_reducible rfl
                  simp only [Act.put, List.setIfInBounds_toArray, List.set_cons_zero, List.set_cons_succ]
                  refine heldTake 2 (v := ?_) (by simp only [List.getElem?_toArray, List.getElem?_cons_succ, List.getElem?_cons_zero]; rfl) (by as_aux_lemma => kernel_rfl) (by intro _ _ _ h; exact h) (by rfl) (by assumption) ?_ ?_
                  rotate_left
                  · intro W hSw; (try dsimp only at hSw); go_simp; try with_reducible rfl
                  simp only [Act.put, List.setIfInBounds_toArray, List.set_cons_zero, List.set_cons_succ]
                  refine heldTake 3 (v := ?_) (by simp only [List.getElem?_toArray, List.getElem?_cons_succ, List.getElem?_cons_zero]; rfl) (by as_aux_lemma => kernel_rfl) (by intro _ _ _ h; exact h) (by rfl) (by assumption) ?_ ?_
                  rotate_left
                  · intro W hSw; (try dsimp only at hSw); go_simp; try with_reducible rfl
                  simp only [Act.put, List.setIfInBounds_toArray, List.set_cons_zero, List.set_cons_succ]
                  refine heldTake 4 (v := ?_) (by simp only [List.getElem?_toArray, List.getElem?_cons_succ, List.getElem?_cons_zero]; rfl) (by as_aux_lemma => kernel_rfl) (by intro _ _ _ h; exact h) (by rfl) (by assumption) ?_ ?_
                  rotate_left
                  · intro W hSw; (try dsimp only at hSw); go_simp; try with_reducible rfl
                  simp only [Act.put, List.setIfInBounds_toArray, List.set_cons_zero, List.set_cons_succ]
                  refine heldTake 5 (v := ?_) (by simp only [List.getElem?_toArray, List.getElem?_cons_succ, List.getElem?_cons_zero]; rfl) (by as_aux_lemma => kernel_rfl) (by intro _ _ _ h; exact h) (by rfl) (by assumption) ?_ ?_
                  rotate_left
                  · intro W hSw; (try dsimp only at hSw); go_simp; try with_reducible rfl
                  simp only [Act.put, List.setIfInBounds_toArray, List.set_cons_zero, List.set_cons_succ]
                  refine heldTake 6 (v := ?_) (by simp only [List.getElem?_toArray, List.getElem?_cons_succ, List.getElem?_cons_zero]; rfl) (by as_aux_lemma => kernel_rfl) (by intro _ _ _ h; exact h) (by rfl) (by assumption) ?_ ?_
                  rotate_left
                  · intro W hSw; (try dsimp only at hSw); go_simp; try with_reducible rfl
                  simp only [Act.put, List.setIfInBounds_toArray, List.set_cons_zero, List.set_cons_succ]
                  refine heldTake 7 (v := ?_) (by simp only [List.getElem?_toArray, List.getElem?_cons_succ, List.getElem?_cons_zero]; rfl) (by as_aux_lemma => kernel_rfl) (by intro _ _ _ h; exact h) (by rfl) (by assumption) ?_ ?_
                  rotate_left
                  · intro W hSw; (try dsimp only at hSw); go_simp; try with_reducible rfl
                  simp only [Act.put, List.setIfInBounds_toArray, List.set_cons_zero, List.set_cons_succ]
                  refine heldTake 8 (v := ?_) (by simp only [List.getElem?_toArray, List.getElem?_cons_succ, List.getElem?_cons_zero]; rfl) (by as_aux_lemma => kernel_rfl) (by intro _ _ _ h; exact h) (by rfl) (by assumption) ?_ ?_
                  rotate_left
                  · intro W hSw; (try dsimp only at hSw); go_simp; try with_reducible rfl
                  simp only [Act.put, List.setIfInBounds_toArray, List.set_cons_zero, List.set_cons_succ]
                  refine heldTake 9 (v := ?_) (by simp only [List.getElem?_toArray, List.getElem?_cons_succ, List.getElem?_cons_zero]; rfl) (by as_aux_lemma => kernel_rfl) (by intro _ _ _ h; exact h) (by rfl) (by assumption) ?_ ?_
                  rotate_left
                  · intro W hSw; (try dsimp only at hSw); go_simp; try with_reducible rfl
                  simp only [Act.put, List.setIfInBounds_toArray, List.set_cons_zero, List.set_cons_succ]
                  refine heldTake 10 (v := ?_) (by simp only [List.getElem?_toArray, List.getElem?_cons_succ, List.getElem?_cons_zero]; rfl) (by as_aux_lemma => kernel_rfl) (by intro _ _ _ h; exact h) (by rfl) (by assumption) ?_ ?_
                  rotate_left
                  · intro W hSw; (try dsimp only at hSw); go_simp; try with_reducible rfl
                  simp only [Act.put, List.setIfInBounds_toArray, List.set_cons_zero, List.set_cons_succ]
                  refine heldTake 11 (v := ?_) (by simp only [List.getElem?_toArray, List.getElem?_cons_succ, List.getElem?_cons_zero]; rfl) (by as_aux_lemma => kernel_rfl) (by intro _ _ _ h; exact h) (by rfl) (by assumption) ?_ ?_
                  rotate_left
                  · intro W hSw; (try dsimp only at hSw); go_simp; try with_reducible rfl
                  simp only [Act.put, List.setIfInBounds_toArray, List.set_cons_zero, List.set_cons_succ]
                  refine heldTake 12 (v := ?_) (by simp only [List.getElem?_toArray, List.getElem?_cons_succ, List.getElem?_cons_zero]; rfl) (by as_aux_lemma => kernel_rfl) (by intro _ _ _ h; exact h) (by rfl) (by assumption) ?_ ?_
                  rotate_left
                  · intro W hSw; (try dsimp only at hSw); go_simp; try with_reducible rfl
                  simp only [Act.put, List.setIfInBounds_toArray, List.set_cons_zero, List.set_cons_succ]
                  refine heldTake 13 (v := ?_) (by simp only [List.getElem?_toArray, List.getElem?_cons_succ, List.getElem?_cons_zero]; rfl) (by as_aux_lemma => kernel_rfl) (by intro _ _ _ h; exact h) (by rfl) (by assumption) ?_ ?_
                  rotate_left
                  · intro W hSw; (try dsimp only at hSw); go_simp; try with_reducible rfl
                  simp only [Act.put, List.setIfInBounds_toArray, List.set_cons_zero, List.set_cons_succ]
                  refine heldTake 14 (v := ?_) (by simp only [List.getElem?_toArray, List.getElem?_cons_succ, List.getElem?_cons_zero]; rfl) (by as_aux_lemma => kernel_rfl) (by intro _ _ _ h; exact h) (by rfl) (by assumption) ?_ ?_
                  rotate_left
                  · intro W hSw; (try dsimp only at hSw); go_simp; try with_reducible rfl
                  simp only [Act.put, List.setIfInBounds_toArray, List.set_cons_zero, List.set_cons_succ]
                  refine heldTake 15 (v := ?_) (by simp only [List.getElem?_toArray, List.getElem?_cons_succ, List.getElem?_cons_zero]; rfl) (by as_aux_lemma => kernel_rfl) (by intro _ _ _ h; exact h) (by rfl) (by assumption) ?_ ?_
                  rotate_left
                  · intro W hSw; (try dsimp only at hSw); go_simp; try with_reducible rfl
                  simp only [Act.put, List.setIfInBounds_toArray, List.set_cons_zero, List.set_cons_succ]
                  refine heldTake 16 (v := ?_) (by simp only [List.getElem?_toArray, List.getElem?_cons_succ, List.getElem?_cons_zero]; rfl) (by as_aux_lemma => kernel_rfl) (by intro _ _ _ h; exact h) (by rfl) (by assumption) ?_ ?_
                  rotate_left
                  · intro W hSw; (try dsimp only at hSw); go_simp; try with_reducible rfl
                  simp only [Act.put, List.setIfInBounds_toArray, List.set_cons_zero, List.set_cons_succ]
                  refine heldTake 17 (v := ?_) (by simp only [List.getElem?_toArray, List.getElem?_cons_succ, List.getElem?_cons_zero]; rfl) (by as_aux_lemma => kernel_rfl) (by intro _ _ _ h; exact h) (by rfl) (by assumption) ?_ ?_
                  rotate_left
                  · intro W hSw; (try dsimp only at hSw); go_simp; try with_reducible rfl
                  simp only [Act.put, List.setIfInBounds_toArray, List.set_cons_zero, List.set_cons_succ]
                  refine heldTake 18 (v := ?_) (by simp only [List.getElem?_toArray, List.getElem?_cons_succ, List.getElem?_cons_zero]; rfl) (by as_aux_lemma => kernel_rfl) (by intro _ _ _ h; exact h) (by rfl) (by assumption) ?_ ?_
                  rotate_left
                  · intro W hSw; (try dsimp only at hSw); go_simp; try with_reducible rfl
                  simp only [Act.put, List.setIfInBounds_toArray, List.set_cons_zero, List.set_cons_succ]
                  refine heldTake 19 (v := ?_) (by simp only [List.getElem?_toArray, List.getElem?_cons_succ, List.getElem?_cons_zero]; rfl) (by as_aux_lemma => kernel_rfl) (by intro _ _ _ h; exact h) (by rfl) (by assumption) ?_ ?_
                  rotate_left
                  · intro W hSw; (try dsimp only at hSw); go_simp; try with_reducible rfl
                  simp only [Act.put, List.setIfInBounds_toArray, List.set_cons_zero, List.set_cons_succ]
                  refine heldTake 20 (v := ?_) (by simp only [List.getElem?_toArray, List.getElem?_cons_succ, List.getElem?_cons_zero]; rfl) (by as_aux_lemma => kernel_rfl) (by intro _ _ _ h; exact h) (by rfl) (by assumption) ?_ ?_
                  rotate_left
                  · intro W hSw; (try dsimp only at hSw); go_simp; try with_reducible rfl
                  simp only [Act.put, List.setIfInBounds_toArray, List.set_cons_zero, List.set_cons_succ]
                  refine heldTake 22 (v := ?_) (by simp only [List.getElem?_toArray, List.getElem?_cons_succ, List.getElem?_cons_zero]; rfl) (by as_aux_lemma => kernel_rfl) (by intro _ _ _ h; exact h) (by rfl) (by assumption) ?_ ?_
                  rotate_left
                  · intro W hSw; (try dsimp only at hSw); go_simp; try with_reducible rfl
                  simp only [Act.put, List.setIfInBounds_toArray, List.set_cons_zero, List.set_cons_succ]
                  refine heldTake 23 (v := ?_) (by simp only [List.getElem?_toArray, List.getElem?_cons_succ, List.getElem?_cons_zero]; rfl) (by as_aux_lemma => kernel_rfl) (by intro _ _ _ h; exact h) (by rfl) (by assumption) ?_ ?_
                  rotate_left
                  · intro W hSw; (try dsimp only at hSw); go_simp; try with_reducible rfl
                  simp only [Act.put, List.setIfInBounds_toArray, List.set_cons_zero, List.set_cons_succ]
                  refine heldTake 24 (v := ?_) (by simp only [List.getElem?_toArray, List.getElem?_cons_succ, List.getElem?_cons_zero]; rfl) (by as_aux_lemma => kernel_rfl) (by intro _ _ _ h; exact h) (by rfl) (by assumption) ?_ ?_
                  rotate_left
                  · intro W hSw; (try dsimp only at hSw); go_simp; try with_reducible rfl
                  simp only [Act.put, List.setIfInBounds_toArray, List.set_cons_zero, List.set_cons_succ]
                  refine heldTake 25 (v := ?_) (by simp only [List.getElem?_toArray, List.getElem?_cons_succ, List.getElem?_cons_zero]; rfl) (by as_aux_lemma => kernel_rfl) (by intro _ _ _ h; exact h) (by rfl) (by assumption) ?_ ?_
                  rotate_left
                  · intro W hSw; (try dsimp only at hSw); go_simp; try with_reducible rfl
                  simp only [Act.put, List.setIfInBounds_toArray, List.set_cons_zero, List.set_cons_succ]
                  refine heldTake 26 (v := ?_) (by simp only [List.getElem?_toArray, List.getElem?_cons_succ, List.getElem?_cons_zero]; rfl) (by as_aux_lemma => kernel_rfl) (by intro _ _ _ h; exact h) (by rfl) (by assumption) ?_ ?_
                  rotate_left
                  · intro W hSw; (try dsimp only at hSw); go_simp; try with_reducible rfl
                  simp only [Act.put, List.setIfInBounds_toArray, List.set_cons_zero, List.set_cons_succ]
                  refine heldCall 21 (by simp only [List.getElem?_toArray, List.getElem?_cons_succ, List.getElem?_cons_zero]; rfl) (by as_aux_lemma => kernel_rfl) (fun K hK => ?_)
                  go_simp
                  refine Calls.mono Q1.out ?_
                  rintro e v1 ⟨rfl, hbb⟩
                  have HX1 := Lib.hid (HX.out.trans (hbb.mono HX.out.size))
                  clear hbb HX
                  have HX := HX1
                  clear HX1
                  refine hK.out _ _ ?_ (fun hHeld => ?_)
                  · exact HC7.out _ HX.out
                  clear hK K
                  (try simp only [Act.put, List.setIfInBounds_toArray, List.set_cons_zero, List.set_cons_succ])
                  refine heldCall 27 (by simp only [List.getElem?_toArray, List.getElem?_cons_succ, List.getElem?_cons_zero]; rfl) (by as_aux_lemma => kernel_rfl) (fun K hK => ?_)
                  go_simp
                  refine Calls.mono (Q2.out _) ?_
                  rintro e v2 ⟨rfl, hg⟩
                  have HX1 := Lib.hid (HX.out.trans (hg.below.mono HX.out.size))
                  clear hg HX
                  have HX := HX1
                  clear HX1
                  refine hK.out _ _ ?_ (fun hHeld => ?_)
                  · exact HC7.out _ HX.out
                  clear hK K
                  (try simp only [Act.put, List.setIfInBounds_toArray, List.set_cons_zero, List.set_cons_succ])
                  refine heldTake 28 (v := ?_) (by simp only [List.getElem?_toArray, List.getElem?_cons_succ, List.getElem?_cons_zero]; rfl) (by as_aux_lemma => kernel_rfl) (by intro _ _ _ h; exact h) (by rfl) (by assumption) ?_ ?_
                  rotate_left
                  · intro W hSw; (try dsimp only at hSw); go_simp; try with_reducible rfl
                  simp only [Act.put, List.setIfInBounds_toArray, List.set_cons_zero, List.set_cons_succ]
                  refine heldTake 29 (v := ?_) (by simp only [List.getElem?_toArray, List.getElem?_cons_succ, List.getElem?_cons_zero]; rfl) (by as_aux_lemma => kernel_rfl) (by intro _ _ _ h; exact h) (by rfl) (by assumption) ?_ ?_
                  rotate_left
                  · intro W hSw; (try dsimp only at hSw); go_simp; try with_reducible rfl
                  simp only [Act.put, List.setIfInBounds_toArray, List.set_cons_zero, List.set_cons_succ]
                  refine heldSkip 30 (by simp only [List.getElem?_toArray, List.getElem?_cons_succ, List.getElem?_cons_zero]; rfl) (by as_aux_lemma => kernel_rfl) (by intro _ _ _ h; exact h) (by rfl) (by assumption) ?_
                  simp only [Act.put, List.setIfInBounds_toArray, List.set_cons_zero, List.set_cons_succ]
                  refine heldSkip 31 (by simp only [List.getElem?_toArray, List.getElem?_cons_succ, List.getElem?_cons_zero]; rfl) (by as_aux_lemma => kernel_rfl) (by intro _ _ _ h; exact h) (by rfl) (by assumption) ?_
                  simp only [Act.put, List.setIfInBounds_toArray, List.set_cons_zero, List.set_cons_succ]
                  refine heldSkip 32 (by simp only [List.getElem?_toArray, List.getElem?_cons_succ, List.getElem?_cons_zero]; rfl) (by as_aux_lemma => kernel_rfl) (by intro _ _ _ h; exact h) (by rfl) (by assumption) ?_
                  simp only [Act.put, List.setIfInBounds_toArray, List.set_cons_zero, List.set_cons_succ]
                  refine heldSkip 33 (by simp only [List.getElem?_toArray, List.getElem?_cons_succ, List.getElem?_cons_zero]; rfl) (by as_aux_lemma => kernel_rfl) (by intro _ _ _ h; exact h) (by rfl) (by assumption) ?_
                  simp only [Act.put, List.setIfInBounds_toArray, List.set_cons_zero, List.set_cons_succ]
                  refine heldSkip 34 (by simp only [List.getElem?_toArray, List.getElem?_cons_succ, List.getElem?_cons_zero]; rfl) (by as_aux_lemma => kernel_rfl) (by intro _ _ _ h; exact h) (by rfl) (by assumption) ?_
                  simp only [Act.put, List.setIfInBounds_toArray, List.set_cons_zero, List.set_cons_succ]
                  refine heldSkip 35 (by simp only [List.getElem?_toArray, List.getElem?_cons_succ, List.getElem?_cons_zero]; rfl) (by as_aux_lemma => kernel_rfl) (by intro _ _ _ h; exact h) (by rfl) (by assumption) ?_
                  simp only [Act.put, List.setIfInBounds_toArray, List.set_cons_zero, List.set_cons_succ]
                  refine heldSkip 36 (by simp only [List.getElem?_toArray, List.getElem?_cons_succ, List.getElem?_cons_zero]; rfl) (by as_aux_lemma => kernel_rfl) (by intro _ _ _ h; exact h) (by rfl) (by assumption) ?_
                  simp only [Act.put, List.setIfInBounds_toArray, List.set_cons_zero, List.set_cons_succ]
                  refine heldSkip 37 (by simp only [List.getElem?_toArray, List.getElem?_cons_succ, List.getElem?_cons_zero]; rfl) (by as_aux_lemma => kernel_rfl) (by intro _ _ _ h; exact h) (by rfl) (by assumption) ?_
                  simp only [Act.put, List.setIfInBounds_toArray, List.set_cons_zero, List.set_cons_succ]
                  refine heldSkip 38 (by simp only [List.getElem?_toArray, List.getElem?_cons_succ, List.getElem?_cons_zero]; rfl) (by as_aux_lemma => kernel_rfl) (by intro _ _ _ h; exact h) (by rfl) (by assumption) ?_
                  simp only [Act.put, List.setIfInBounds_toArray, List.set_cons_zero, List.set_cons_succ]
                  refine heldSkip 39 (by simp only [List.getElem?_toArray, List.getElem?_cons_succ, List.getElem?_cons_zero]; rfl) (by as_aux_lemma => kernel_rfl) (by intro _ _ _ h; exact h) (by rfl) (by assumption) ?_
                  simp only [Act.put, List.setIfInBounds_toArray, List.set_cons_zero, List.set_cons_succ]
                  refine heldSkip 40 (by simp only [List.getElem?_toArray, List.getElem?_cons_succ, List.getElem?_cons_zero]; rfl) (by as_aux_lemma => kernel_rfl) (by intro _ _ _ h; exact h) (by rfl) (by assumption) ?_
                  simp only [Act.put, List.setIfInBounds_toArray, List.set_cons_zero, List.set_cons_succ]
                  refine heldSkip 41 (by simp only [List.getElem?_toArray, List.getElem?_cons_succ, List.getElem?_cons_zero]; rfl) (by as_aux_lemma => kernel_rfl) (by intro _ _ _ h; exact h) (by rfl) (by assumption) ?_
                  simp only [Act.put, List.setIfInBounds_toArray, List.set_cons_zero, List.set_cons_succ]
                  refine heldSkip 42 (by simp only [List.getElem?_toArray, List.getElem?_cons_succ, List.getElem?_cons_zero]; rfl) (by as_aux_lemma => kernel_rfl) (by intro _ _ _ h; exact h) (by rfl) (by assumption) ?_
                  simp only [Act.put, List.setIfInBounds_toArray, List.set_cons_zero, List.set_cons_succ]
                  refine heldTake 43 (v := ?_) (by simp only [List.getElem?_toArray, List.getElem?_cons_succ, List.getElem?_cons_zero]; rfl) (by as_aux_lemma => kernel_rfl) (by intro _ _ _ h; exact h) (by rfl) (by assumption) ?_ ?_
                  rotate_left
                  · intro W hSw; (try dsimp only at hSw); go_simp; try with_reducible rfl
                  simp only [Act.put, List.setIfInBounds_toArray, List.set_cons_zero, List.set_cons_succ]
                  refine heldTake 44 (v := ?_) (by simp only [List.getElem?_toArray, List.getElem?_cons_succ, List.getElem?_cons_zero]; rfl) (by as_aux_lemma => kernel_rfl) (by intro _ _ _ h; exact h) (by rfl) (by assumption) ?_ ?_
                  rotate_left
                  · intro W hSw; (try dsimp only at hSw); go_simp; try with_reducible rfl
                  simp only [Act.put, List.setIfInBounds_toArray, List.set_cons_zero, List.set_cons_succ]
                  refine heldDone (by as_aux_lemma => kernel_rfl) ?_ _
                  have HBF := Lib.hid (HBX.out.trans (HX.out.mono HBX.out.size))
                  go_wp2_with fail
                  go_roundg (gk - 1)
                  case measure => have := HJ.out; omega
                  case rel => exact ⟨j + 1, by go_num, Lib.hid (by have := HJ.out; omega), by omega, HBF⟩
            ·
              as_aux_lemma =>
                have hsblt : sb < w10.heap.size := HM10.out.1.lt
                have hMw : MapIs wr strKf boolVf strOk sb (mput M it true) := (HM10.out.1.below HB11.out hsblt).below HBX.out (Nat.lt_of_lt_of_le hsblt HB11.out.size)
                have hKf : Keeps (fun q => q = sb) W7 wr := by
                  refine (HKP.out.trans (((Keeps.refl (fun q => q = sb) w8).drewN q0).trans HK10.out (fun _ _ h => h)) (fun _ _ h => h)).trans ((Keeps.ofBelow HB11.out (fun q => q = sb)).trans (Keeps.ofBelow HBX.out (fun q => q = sb)) (fun _ _ h => h)) (fun _ _ h => h)
                have HMF := Lib.hid (And.intro hMw HM10.out.2)
                have HKF := Lib.hid hKf
                clear hsblt hMw hKf
                go_wp2_with fail
                go_roundg (g1 - 1)
                case measure => have := HK.out; omega
                case rel => exact ⟨k + 1, _, by go_num, Lib.hid (by have := HK.out; omega), HMF, HKF⟩
    ·
      as_aux_lemma =>
        have hm0 := HM.out.1
        have hsb8 : sb < w8.heap.size := hm0.lt
        go_wp2_with fail
        refine Calls.mono (QA.out 5000 floor w8 HB38.out (by omega)) ?_
        rintro e w9 ⟨A9, c9, T9, ms9, rfl, hT9, hms9, ho9, hb9⟩
        obtain rfl := HT.out.unique hT9
        obtain rfl := HMS.out.unique hms9
        have hz5 : topN 5000 ms.length = ms.length := by unfold topN; omega
        rw [hz5] at ho9 ⊢
        rw [List.take_length] at ho9
        have hA9 : ∀ b o sp, A9 = some ⟨b, o, sp⟩ → ¬ b = sb := fun b o sp e h => by
          have := (ho9.lt b (by rw [e]; rfl)).1
          omega
        have HA9 := Lib.hid hA9
        have HR9 := Lib.hid (Reads.of_own ho9)
        have HB9 := Lib.hid hb9
        have HM9 := Lib.hid (hm0.below hb9 hsb8)
        have HSZ8 := Lib.hid hsb8
        have hR6 : ∀ wx, Keeps (fun q => q = sb) w9 wx → Reads wx w6.heap.size 3 A6 zs.length (zs.flatMap nearEnc) := fun wx hk => by
          refine (HR6.out.below (HB68.out)).keep (fun p hp => ?_)
          have h9 : w9.cell? p = w8.cell? p := hb9.cell (by have := HB68.out.size; omega)
          exact (hk.cell (by have := HB68.out.size; have := hb9.size; omega) (fun e => by have := HSB.out; omega)).trans h9
        have HR6b := Lib.hid hR6
        clear hz5 hA9 ho9 hb9 hsb8 hm0 hT9 hms9 hR6
        go_wp2_with fail
        go_loopg [20] ms.length (fun rest s20 wx => ∃ (j : Nat) (M2 : List (ByteArray × Bool)), s20 = .int .i64 j ∧ Hid (j + rest = ms.length) ∧ (j : Int) ≤ 820 ∧ Hid (MapIs wx strKf boolVf strOk sb M2 ∧ ∀ x ∈ (ms.take j).map (·.item), mget M2 x = some true) ∧ Hid (Keeps (fun q => q = sb) w9 wx))
        case atStart => exact ⟨0, M, rfl, Lib.hid (by simp), by omega, Lib.hid ⟨HM9.out, by simp⟩, Lib.hid (Keeps.refl _ _)⟩
        case round =>
          obtain ⟨j, M2, rfl, HJ, hj0, HM2, HK2⟩ := hrel
          by_cases hj : (j : Int) < (ms.length : Int)
          · have hjl : j < ms.length := by omega
            obtain ⟨p9, o9, rfl, hp9, u0, -, -⟩ := near_at (HK2.out.reads HR9.out (Nat.le_refl _) HA9.out) hjl
            have hsz := HMS.out.size HSS.out (List.getElem_mem hjl)
            have htk : (ms.take (j + 1)).map (·.item) = (ms.take j).map (·.item) ++ [ms[j].item] := by
              rw [List.take_succ_eq_append_getElem hjl, List.map_append]; rfl
            have HTK := Lib.hid htk
            clear htk
            generalize ms[j].item = it at *
            obtain ⟨w10, hrun, hM10, hk10⟩ := put_seen HM2.out.1 (key := it) hsz
            have hget : ∀ x ∈ (ms.take (j + 1)).map (·.item), mget (mput M2 it true) x = some true := fun x hx => by
              rw [HTK.out, List.mem_append] at hx
              rw [mget_mput]
              by_cases e : x = it
              · rw [if_pos e]
              · rw [if_neg e]
                rcases hx with hx | hx
                · exact HM2.out.2 x hx
                · exact absurd (by simpa using hx) e
            have HM10 := Lib.hid (And.intro hM10 hget)
            have HK10 := Lib.hid (HK2.out.trans hk10 (fun _ _ h => h))
            clear hM10 hk10 hget
            go_wp2_with fail
            go_roundg (gk - 1)
            case measure => have := HJ.out; omega
            case rel => exact ⟨j + 1, _, by go_num, Lib.hid (by have := HJ.out; omega), by omega, HM10, HK10⟩
          · have hje : j = ms.length := by have := HJ.out; omega
            have hall : ∀ x ∈ ms.map (·.item), mget M2 x = some true := by
              have := HM2.out.2
              rw [hje, List.take_length] at this
              exact this
            have HALL := Lib.hid hall
            obtain ⟨w11, hw11⟩ : ∃ w11 : World, w11 = wr := ⟨_, rfl⟩
            rw [← hw11] at HM2 HK2 ⊢
            clear hw11 hall hje
            have HF : Hid (Below w.heap.size w w11) := Lib.hid (by
              have h1 : Below w3.heap.size w3 w9 := HB38.out.trans (HB9.out.mono HB38.out.size)
              refine (hb13.trans (h1.mono hb13.size)).trans (HK2.out.toBelow (Nat.le_trans hb13.size h1.size) (fun q hq => ?_))
              rw [hq, HSB.out]
              exact Nat.le_trans hb13.size HB36.out.size)
            go_wp2_with fail
            go_loopg [21] zs.length (fun rest s21 wx => ∃ j : Nat, s21 = .int .i64 j ∧ Hid (j + rest = zs.length) ∧ (j : Int) ≤ 820 ∧ w11 = wx)
            case atStart => exact ⟨0, rfl, Lib.hid (by simp), by omega, rfl⟩
            case round =>
              obtain ⟨i, rfl, HI2, hi2, rfl⟩ := hrel
              by_cases hi : (i : Int) < (zs.length : Int)
              · have hil : i < zs.length := by omega
                obtain ⟨p9, o9, rfl, hp9, u0, -, -⟩ := near_at (HR6b.out w11 HK2.out) hil
                have hsz := HZS.out.size HSS.out (List.getElem_mem hil)
                have hin := HMS.out.more HZS.out (List.getElem_mem hil)
                have hg := HALL.out _ hin
                generalize zs[i].item = it at *
                have hlook := look_seen HM2.out.1 (key := it) hsz
                rw [hg] at hlook
                have hlook' : (Instr.lookup 43 (.map (some sb)) (.string it) false).run Try.prog w11 = .ok (.bool true) w11 := hlook
                clear hlook hg hin
                go_wp2_with fail
                go_roundg (gk - 1)
                case measure => have := HI2.out; omega
                case rel => exact ⟨i + 1, by go_num, Lib.hid (by have := HI2.out; omega), by omega, rfl⟩
              · go_wp2_with fail
                go_ret
                exact ⟨rfl, HF.out⟩
end Go.Proofs.Ytbmkejiijkbmlaa

