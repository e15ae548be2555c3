/- Contract of decay.Keys: a range over counts whose body appends. -/
import Derived.Test.YtgahopkbgefjdaaDecR
import Derived.Test.YtgahopkbgefjdaaDcD
import Derived.Test.YtgahopkbgefjdaaDecN
import Derived.Test.YtgahopkbgefjdaaKitG
import Derived.WalkSmall
import Derived.RangeFuncBox
import Derived.Maps.AppendAt
namespace Go.Proofs.Ytgahopkbgefjdaa
open Go.ChangeShapes Go.WideShapes Go.ChangeAt Go.RowKit Go.Shelf Go.Lib Go.Sort Go.Proofs
attribute [local go_sem] Oper.semAt_some
set_option linter.unusedVariables false
set_option linter.unusedSimpArgs false

theorem counts_any (cb : Nat) (now : Int) (w : World) :
    Calls Try.prog 40 #[.pointer (some ⟨cb, 0, none⟩), .int .i64 now] w fun e w' => e = .returned (.func (.func 52) #[] #[.pointer (some ⟨w.heap.size, 0, none⟩), .pointer (some ⟨w.heap.size + 1, 0, none⟩)]) ∧ w' = (w.alloc (.cells #[.pointer (some ⟨cb, 0, none⟩)] 27)).alloc (.cells #[.int .i64 now] 3) := by
  go_enter Try.func40, Try.ntmps40
  go_wp2
  go_ret
  exact ⟨rfl, rfl⟩

/-- The keys that weigh, rising. -/
def KeysD (hf : Int) (hist : List AddD) (now : Int) (ks : List ByteArray) : Prop := ks.Pairwise (fun x y => sLt x y = true) ∧ ∀ k, k ∈ ks ↔ 0 < cntV hf hist k now
theorem keysD_nodup {ks : List ByteArray} (h : ks.Pairwise (fun x y => sLt x y = true)) : ks.Nodup := h.imp (fun {x y} h e => by subst e; rw [sLt_irrefl] at h; cases h)
theorem KeysD.uniq {hf : Int} {hist : List AddD} {now : Int} {ks ms : List ByteArray} (h : KeysD hf hist now ks) (k : KeysD hf hist now ms) : ks = ms :=
  sorted_unique sLt sLt_irrefl (fun x y z => sLt_trans) ((List.perm_ext_iff_of_nodup (keysD_nodup h.1) (keysD_nodup k.1)).2 (fun x => by rw [h.2, k.2])) h.1 k.1

theorem cntV_key {S : KeysL} {R : Nat → RowL} {hist : List AddD} {cnt : Int} (hI : DecInv S R hist cnt) {hf now : Int} {k : ByteArray} (h : 0 < cntV hf hist k now) : k ∈ S.map (·.1) := by
  unfold cntV at h
  split at h
  · omega
  · cases hg : mget S k with
    | none =>
      have e := hI.eqs k (fun a => wtV (now - a) hf)
      rw [show mrow S R k = [] by simp [mrow, hg]] at e
      rw [← e] at h
      simp [rowSum] at h
    | some b => exact List.mem_map.2 ⟨_, mget_some_mem hg, rfl⟩
theorem mem_weighs {hf : Int} {hist : List AddD} {now : Int} {ks : List ByteArray} {r : ByteArray × Int} : r ∈ weighs hf hist now ks ↔ r.1 ∈ ks ∧ r.2 = cntV hf hist r.1 now ∧ 0 < r.2 := by
  unfold weighs
  rw [List.mem_filter, List.mem_map]
  constructor
  · rintro ⟨⟨k, hk, rfl⟩, h⟩
    exact ⟨hk, rfl, by simpa using h⟩
  · rintro ⟨h1, h2, h3⟩
    exact ⟨⟨r.1, h1, by rw [← h2]⟩, by simpa using h3⟩
theorem weighs_keys_nodup {hf : Int} {hist : List AddD} {now : Int} {ks : List ByteArray} (h : ks.Nodup) : ((weighs hf hist now ks).map (·.1)).Nodup := by
  unfold weighs
  refine List.Nodup.sublist ((List.filter_sublist).map _) ?_
  rw [List.map_map]
  have : ((fun x : ByteArray × Int => x.1) ∘ fun k => (k, cntV hf hist k now)) = id := rfl
  rw [this, List.map_id]
  exact h

theorem str_infoD : (Try.prog.info? 9).map (fun i => (i.zero, i.size, i.bytes)) = some (some (.string ByteArray.empty), 1, 16) := by kernel_rfl
theorem own_kindD {w : World} {B : Nat} {e : TypeId} {size : Nat} {v : Value} {n : Nat} {xs : List Value} (h : w.ownsRow B e size v n xs) : ∀ g, v.ownBlock = some g → ∃ c fz, w.heap[g]? = some (.cells c e fz) := by
  intro g hg
  rcases h.2 with ⟨rfl, _⟩ | ⟨g', cap, cur, rfl, _, hb, _⟩
  · simp [Value.ownBlock] at hg
  · obtain rfl : g' = g := by simpa [Value.ownBlock] using hg
    exact ⟨_, _, hb⟩

set_option maxRecDepth 100000 in
set_option maxHeartbeats 4000000 in
theorem dkeys_any (cb : Nat) (F : Nat → Prop) (hf cnt : Int) (hist : List AddD) (now : Int) (w : World) (h : DecObj w cb F hf cnt hist) (hl : (hist.length : Int) ≤ 10000) (hnow : now ≤ 9223372036854775807) :
    Calls Try.prog 30 #[.pointer (some ⟨cb, 0, none⟩), .int .i64 now] w fun e w' => ∃ A c ks, e = .returned (.slice A (List.length ks) c) ∧ KeysD hf hist now ks ∧ w'.ownsRow w.heap.size 9 1 (.slice A ks.length c) ks.length (ks.map Value.string) ∧ Below w.heap.size w w' := by
  obtain ⟨bs, S, R, hD, hI, -, h1, h2⟩ := h
  have hSl : (S.length : Int) ≤ 10000 := by have := hI.keys_le hD.sums.nodup; omega
  refine (callsIn_wide (n := 8)).1 ?_
  obtain ⟨W4, hW4⟩ : ∃ W4, W4 = w.alloc (Obj.cells #[Value.slice none 0 0] 58) := ⟨_, rfl⟩
  have hB4 : Below w.heap.size w W4 := by rw [hW4]; exact (Below.refl _ w).alloc (Nat.le_refl _) _
  have hz4 : W4.heap.size = w.heap.size + 1 := by rw [hW4]; simp
  have b4 : Boxed W4 w.heap.size 58 (.slice none 0 0) := by rw [hW4]; exact Boxed.new _ _ _
  refine callsIn_of_wp_marks Try.func30 rfl trivial ?_ rfl
  simp only [Try.ntmps30, List.size_toArray, List.length_cons, List.length_nil, Nat.reduceAdd, Nat.reduceSub, Array.replicate_succ, Array.replicate_zero, List.push_toArray, List.append_toArray, List.nil_append, List.cons_append]
  gi_wp2
  rw [← hW4]
  refine ⟨trivial, (callsIn_wide.2 (counts_any cb now W4)).mono ?_⟩
  rintro e w1 ⟨rfl, rfl⟩
  obtain ⟨W5, hW5⟩ : ∃ W5, W5 = (W4.alloc (.cells #[.pointer (some ⟨cb, 0, none⟩)] 27)).alloc (.cells #[.int .i64 now] 3) := ⟨_, rfl⟩
  have hB5 : Below W4.heap.size W4 W5 := by rw [hW5]; exact ((Below.refl _ W4).alloc (Nat.le_refl _) _).alloc (by simp) _
  have hz5 : W5.heap.size = w.heap.size + 1 + 1 + 1 := by rw [hW5, ← hz4]; simp
  have c5 : W5.heap[w.heap.size + 1]? = some (.cells #[.pointer (some ⟨cb, 0, none⟩)] 27 (0, 0)) := by
    rw [hW5, ← hz4]
    exact (Below.heap_alloc _ _ _ (by simp)).trans (heap_alloc_new W4 _)
  have n5 : W5.heap[w.heap.size + 1 + 1]? = some (.cells #[.int .i64 now] 3 (0, 0)) := by
    have := heap_alloc_new (W4.alloc (.cells #[.pointer (some ⟨cb, 0, none⟩)] 27)) (.cells #[.int .i64 now] 3)
    rw [World.size_alloc, hz4] at this
    rw [hW5]
    exact this
  have hB45 : Below w.heap.size w W5 := hB4.trans (hB5.mono hB4.size)
  have hD5 : DecAt W5 cb bs hf cnt S R := hD.keep (Keeps.ofBelow hB45 (fun _ => False)) (fun _ _ h => h)
  have x5 : Boxed W5 w.heap.size 58 (.slice none 0 0) := (hB5.block _ (by omega)).trans b4
  rw [← hW5]
  clear hW5 hW4 hB5 hB4 b4
  rw [hz4]
  have HNS := Lib.hid hD.sums.nodup
  have HI := Lib.hid hI
  clear hD
  gi_wp2
  apply wpIn_rangeFunc_all (hro := rfl) (h1 := by omega) (gf := 52) (lb := #[.pointer (some ⟨w.heap.size + 1, 0, none⟩), .pointer (some ⟨w.heap.size + 1 + 1, 0, none⟩)]) (hg := rfl) (hFg := trivial) (eg := enters_of Try.func52 (by kernel_rfl) rfl)
    (hseq := counts1_all _ (by omega) cb bs hf cnt S R hist now W5 (fun t => t = 58 ∨ t = 9) (w.heap.size + 1) (w.heap.size + 1 + 1) hD5 hI h1 h2 hnow c5 n5 (by decide) (by decide) (by decide) (by decide) (by decide))
    (hKt := KeepsTy.trans) (hKb := fun W o o' ho hc hw => KeepsTy.record (by omega) ho hc hw) (hps := fun _ => rfl)
    (I := fun pre W => (∃ v, Boxed W w.heap.size 58 v ∧ W.ownsRow w.heap.size 9 1 v (List.length pre) ((pre.map (·.1)).map Value.string) ∧ True) ∧ Below w.heap.size w W)
    (hI := OwnFrom.and (Own.from (holdsRow_own w.heap.size w.heap.size 58 9 1 (fun pre : List (ByteArray × Int) => pre.length) (fun pre => (pre.map (·.1)).map Value.string) (fun _ _ => True)) _) (ownFrom_below (Nat.le_refl _) (by omega)))
    (h0 := ⟨⟨_, x5, World.ownsRow_nil _ _ _ _, trivial⟩, hB45⟩)
  case hassign =>
    intro l x W K hK
    gi_wp2
    exact hK
  case hbody =>
    rintro l pre x W ⟨⟨v, hv, hrow, -⟩, hB⟩ hlt
    obtain ⟨A, c, rfl⟩ := own_form hrow
    have hvc := hv.cell
    have hz := hB.size
    obtain ⟨i0, hi, hz0, hz1, hz2⟩ := info_parts str_infoD
    gi_wp2_with (gi_at_builtin; refine wpListIn_append_own _ rfl _ _ 58 rfl w.heap.size 9 i0 (.string ByteArray.empty) 1 16 Try.underlying58 hi hz0 hz1 hz2 rfl (by decide) (Value.slice A pre.length c) pre.length ((pre.map (·.1)).map Value.string) rfl (hrow.alloc _) ⟨W.heap.size, 0, none⟩ 1 1 [.string x.1] rfl rfl (cell_one_new _ _ _) (by simp [Value.oneCell']) (by unfold maxLen; omega) (by omega) (by simp; omega) ?_; intro v' w1 hown' hgrow _; obtain ⟨g', cap', rfl⟩ := ownsRow_succ hown'; obtain ⟨hv1, hv2, hr2, hk2, hb2⟩ := hv.appended (by decide) hrow hB.size (Nat.le_refl _) hown' hgrow; have hty := Boxed.appendedTy hv (B2 := W5.heap.size + 2) (T := fun t => t = 58 ∨ t = 9) (v' := .slice (some ⟨g', 0, none⟩) (pre.length + 1) cap') (by decide) hrow hgrow (.inl rfl) (.inr rfl); have hc1 := hv1.cell; have hf1 := hv1.frozen)
    refine ⟨hk2.from _, hty, ⟨⟨_, hv2, ?_, trivial⟩, hB.trans hb2⟩⟩
    have e : ((pre ++ [x]).map (·.1)).map Value.string = (pre.map (·.1)).map Value.string ++ [Value.string x.1] := by simp
    rw [e, List.length_append]
    exact hr2
  case hdone =>
    rintro D ys W hD ⟨ks, hS, rfl⟩ ⟨⟨v, hv, hrow, -⟩, hB⟩ hK
    obtain ⟨A, c, rfl⟩ := own_form hrow
    have hkn : ks.Nodup := hS.nodup_iff.2 HNS.out
    have hlen : (weighs hf hist now ks).length ≤ S.length := by
      have h1 := weighs_len hf hist now ks
      have h2 := hS.length_eq
      rw [List.length_map] at h2
      omega
    have hmem : ∀ k, k ∈ (weighs hf hist now ks).map (·.1) ↔ 0 < cntV hf hist k now := fun k => by
      constructor
      · intro hk
        obtain ⟨r, hr, rfl⟩ := List.mem_map.1 hk
        obtain ⟨_, h2, h3⟩ := mem_weighs.1 hr
        rwa [← h2]
      · intro hk
        exact List.mem_map.2 ⟨(k, cntV hf hist k now), mem_weighs.2 ⟨hS.mem_iff.2 (cntV_key HI.out hk), rfl, hk⟩, rfl⟩
    have hnd : ((weighs hf hist now ks).map (·.1)).Nodup := weighs_keys_nodup hkn
    have hml : (weighs hf hist now ks).length = ((weighs hf hist now ks).map (·.1)).length := by rw [List.length_map]
    rw [hml] at hv hrow hlen
    clear hml
    generalize (weighs hf hist now ks).map (·.1) = rs at *
    obtain ⟨M, hM, hMs⟩ := sort_ex (lt := sLt) sLt_irrefl (fun x y z => sLt_trans) (fun x y => sLt_total) hnd
    have hso : KeysD hf hist now M := ⟨hMs, fun k => by rw [← hM.mem_iff, hmem]⟩
    have hvc := hv.cell
    have hnr : some w.heap.size ≠ (Value.slice A rs.length c).ownBlock := hv.not_row (by decide) hrow
    have hnD : (Value.slice A rs.length c).ownBlock ≠ some D := fun e => by
      obtain ⟨c', fz, hc'⟩ := own_kindD hrow D e
      rw [hK] at hc'
      cases hc'
    have q := sortStr (P := Try.prog) Try.sortStrs w.heap.size 9 A rs.length c rs rfl W hrow (by omega) M hM hMs
    have Q := Lib.hid q
    have HSO := Lib.hid hso
    have HB := Lib.hid hB
    have HROW := Lib.hid hrow
    have HK := Lib.hid hK
    have HML := Lib.hid hM.length_eq
    clear q hnd hS hmem hrow hB hK hso hM hMs hkn hlen
    gi_wp2
    refine ⟨trivial, (callsIn_wide.2 Q.out).mono ?_⟩
    rintro e w3 ⟨rfl, ho3, hk3⟩
    have hb3 : Below w.heap.size w w3 := HB.out.trans (hk3.toBelow HB.out.size (fun j hj => (HROW.out.lt j hj).1))
    have hDl : D < W.heap.size := (Array.getElem?_eq_some_iff.1 HK.out).1
    have hK3 : w3.heap[D]? = some (.deferred (some [])) := (hk3.block D hDl hnD).trans HK.out
    have hv3 : w3.heap[w.heap.size]? = some (.cells #[.slice A rs.length c] 58 (0, 0)) := (hk3.block _ hv.lt (fun e => hnr e.symm)).trans hv
    have hc3 : w3.cell? ⟨w.heap.size, 0, none⟩ = some (.slice A rs.length c) := by simp [World.cell?, hv3]
    have HK3 := Lib.hid hK3
    have HO3 := Lib.hid ho3
    have HB3 := Lib.hid hb3
    clear hK3 ho3 hb3 hk3 hv3 hnr hnD
    gi_wp2
    refine ⟨by simp, .inl ⟨_, _, rfl, run_takeDeferred HK3.out, ?_⟩⟩
    refine ⟨_, results_tmp rfl _ _ _, A, c, M, by rw [← HML.out]; rfl, HSO.out, ?_, HB3.out.trans (belowK_b (w := w) (Nat.le_refl _) w3 D _ _ (by omega) HK3.out rfl rfl)⟩
    rw [← HML.out]
    exact ownsRow_putObj HO3.out _ HK3.out rfl
end Go.Proofs.Ytgahopkbgefjdaa

/- Contract of decay.Top: a range over counts whose body appends. -/
namespace Go.Proofs.Ytgahopkbgefjdaa
open Go.ChangeShapes Go.WideShapes Go.ChangeAt Go.RowKit Go.Shelf Go.Lib Go.Sort Go.Proofs
attribute [local go_sem] Oper.semAt_some
set_option linter.unusedVariables false
set_option linter.unusedSimpArgs false

/-- All counts, in order; the first n of them. -/
def AllD (hf : Int) (hist : List AddD) (now : Int) (cs : List CntV) : Prop := cs.Pairwise (fun x y => cntLt x y = true) ∧ ∀ r, r ∈ cs ↔ (r.n = cntV hf hist r.key now ∧ 0 < r.n)
theorem AllD.uniq {hf : Int} {hist : List AddD} {now : Int} {cs ds : List CntV} (h : AllD hf hist now cs) (k : AllD hf hist now ds) : cs = ds := cnts_unique h.1 k.1 (fun r => by rw [h.2, k.2])
def TopD (hf : Int) (hist : List AddD) (now n : Int) (ts : List CntV) : Prop := ∃ cs, AllD hf hist now cs ∧ ts = cs.take (topM n cs.length)
theorem TopD.uniq {hf : Int} {hist : List AddD} {now n : Int} {ts us : List CntV} (h : TopD hf hist now n ts) (k : TopD hf hist now n us) : ts = us := by
  obtain ⟨cs, h1, rfl⟩ := h
  obtain ⟨ds, k1, rfl⟩ := k
  rw [h1.uniq k1]
theorem AllD.len {hf : Int} {hist : List AddD} {now : Int} {cs : List CntV} (h : AllD hf hist now cs) {S : KeysL} (hS : ∀ k, 0 < cntV hf hist k now → k ∈ S.map (·.1)) : cs.length ≤ S.length := by
  have hn : (cs.map CntV.key).Nodup := by
    refine List.pairwise_map.2 (List.Pairwise.imp_of_mem (fun {x y} hx hy hxy e => ?_) h.1)
    have h1 := ((h.2 x).1 hx).1
    have h2 := ((h.2 y).1 hy).1
    have : x = y := CntV.same ⟨e, by rw [h1, h2, e]⟩
    subst this
    rw [cntLt_irr] at hxy
    cases hxy
  have := nodup_len_le (cs.map CntV.key) (S.map (·.1)) hn (fun x hx => by
    obtain ⟨r, hr, rfl⟩ := List.mem_map.1 hx
    have := (h.2 r).1 hr
    exact hS _ (by rw [← this.1]; exact this.2))
  simpa using this
def rToCnt (p : ByteArray × Int) : CntV := ⟨p.1, p.2⟩
abbrev boxW (pre : List (ByteArray × Int)) : List Value := (pre.map rToCnt).flatMap cntEnc

/-- There are all counts, in order. -/
theorem allD_ex {S : KeysL} {R : Nat → RowL} {hist : List AddD} {cnt : Int} (hI : DecInv S R hist cnt) (hS : (S.map (·.1)).Nodup) (hf now : Int) {ks : List ByteArray} (hk : ks.Perm (S.map (·.1))) {ms : List CntV} (hp : ((weighs hf hist now ks).map rToCnt).Perm ms) (hs : ms.Pairwise (fun x y => cntLt x y = true)) : AllD hf hist now ms := by
  refine ⟨hs, fun r => ?_⟩
  rw [← hp.mem_iff, List.mem_map]
  constructor
  · rintro ⟨p, hp', rfl⟩
    obtain ⟨_, h2, h3⟩ := mem_weighs.1 hp'
    exact ⟨h2, h3⟩
  · rintro ⟨h2, h3⟩
    exact ⟨(r.key, r.n), mem_weighs.2 ⟨hk.mem_iff.2 (cntV_key (hf := hf) (now := now) hI (by rw [← h2]; exact h3)), h2, h3⟩, rfl⟩
theorem weighs_nodup {hf : Int} {hist : List AddD} {now : Int} {ks : List ByteArray} (h : ks.Nodup) : ((weighs hf hist now ks).map rToCnt).Nodup := by
  have := weighs_keys_nodup (hf := hf) (hist := hist) (now := now) h
  exact List.pairwise_map.2 ((List.pairwise_map.1 this).imp (fun {a b} h e => h (congrArg CntV.key e)))

set_option maxRecDepth 100000 in
set_option maxHeartbeats 4000000 in
theorem dtop_any (cb : Nat) (F : Nat → Prop) (hf cnt : Int) (hist : List AddD) (now n : Int) (w : World) (h : DecObj w cb F hf cnt hist) (hl : (hist.length : Int) ≤ 10000) (hnow : now ≤ 9223372036854775807) (hn : n ≤ 9223372036854775807) :
    Calls Try.prog 33 #[.pointer (some ⟨cb, 0, none⟩), .int .i64 now, .int .i64 n] w fun e w' => ∃ A c ts, e = .returned (.slice A (List.length ts) c) ∧ TopD hf hist now n ts ∧ w'.ownsRow w.heap.size 77 2 (.slice A ts.length c) ts.length (ts.flatMap cntEnc) ∧ Below w.heap.size w w' := by
  obtain ⟨bs, S, R, hD, hI, -, h1, h2⟩ := h
  have hSl : (S.length : Int) ≤ 10000 := by have := hI.keys_le hD.sums.nodup; omega
  by_cases n0 : n ≤ 0
  · have fin : TopD hf hist now n [] := by
      obtain ⟨M, hM, hMs⟩ := sort_ex (lt := ltOf cntCmp) cntLt_irr cntLt_tr cntLt_tot (weighs_nodup (hf := hf) (hist := hist) (now := now) hD.sums.nodup)
      refine ⟨M, allD_ex hI hD.sums.nodup hf now (List.Perm.refl _) hM hMs, ?_⟩
      have : topM n M.length = 0 := by unfold topM; omega
      rw [this]
      rfl
    have FIN := Lib.hid fin
    clear fin hD hI
    go_enter Try.func33, Try.ntmps33
    go_wp2
    go_ret
    exact ⟨none, 0, [], rfl, FIN.out, World.ownsRow_nil _ _ _ _, Below.refl _ _⟩
  refine (callsIn_wide (n := 8)).1 ?_
  obtain ⟨W4, hW4⟩ : ∃ W4, W4 = w.alloc (Obj.cells #[Value.slice none 0 0] 61) := ⟨_, rfl⟩
  have hB4 : Below w.heap.size w W4 := by rw [hW4]; exact (Below.refl _ w).alloc (Nat.le_refl _) _
  have hz4 : W4.heap.size = w.heap.size + 1 := by rw [hW4]; simp
  have b4 : Boxed W4 w.heap.size 61 (.slice none 0 0) := by rw [hW4]; exact Boxed.new _ _ _
  refine callsIn_of_wp_marks Try.func33 rfl trivial ?_ rfl
  simp only [Try.ntmps33, List.size_toArray, List.length_cons, List.length_nil, Nat.reduceAdd, Nat.reduceSub, Array.replicate_succ, Array.replicate_zero, List.push_toArray, List.append_toArray, List.nil_append, List.cons_append]
  gi_wp2
  rw [← hW4]
  refine ⟨trivial, (callsIn_wide.2 (counts_any cb now W4)).mono ?_⟩
  rintro e w1 ⟨rfl, rfl⟩
  obtain ⟨W5, hW5⟩ : ∃ W5, W5 = (W4.alloc (.cells #[.pointer (some ⟨cb, 0, none⟩)] 27)).alloc (.cells #[.int .i64 now] 3) := ⟨_, rfl⟩
  have hB5 : Below W4.heap.size W4 W5 := by rw [hW5]; exact ((Below.refl _ W4).alloc (Nat.le_refl _) _).alloc (by simp) _
  have hz5 : W5.heap.size = w.heap.size + 1 + 1 + 1 := by rw [hW5, ← hz4]; simp
  have c5 : W5.heap[w.heap.size + 1]? = some (.cells #[.pointer (some ⟨cb, 0, none⟩)] 27 (0, 0)) := by
    rw [hW5, ← hz4]
    exact (Below.heap_alloc _ _ _ (by simp)).trans (heap_alloc_new W4 _)
  have n5 : W5.heap[w.heap.size + 1 + 1]? = some (.cells #[.int .i64 now] 3 (0, 0)) := by
    have := heap_alloc_new (W4.alloc (.cells #[.pointer (some ⟨cb, 0, none⟩)] 27)) (.cells #[.int .i64 now] 3)
    rw [World.size_alloc, hz4] at this
    rw [hW5]
    exact this
  have hB45 : Below w.heap.size w W5 := hB4.trans (hB5.mono hB4.size)
  have hD5 : DecAt W5 cb bs hf cnt S R := hD.keep (Keeps.ofBelow hB45 (fun _ => False)) (fun _ _ h => h)
  have x5 : Boxed W5 w.heap.size 61 (.slice none 0 0) := (hB5.block _ (by omega)).trans b4
  rw [← hW5]
  clear hW5 hW4 hB5 hB4 b4
  rw [hz4]
  have HNS := Lib.hid hD.sums.nodup
  have HI := Lib.hid hI
  clear hD
  gi_wp2
  apply wpIn_rangeFunc_all (hro := rfl) (h1 := by omega) (gf := 52) (lb := #[.pointer (some ⟨w.heap.size + 1, 0, none⟩), .pointer (some ⟨w.heap.size + 1 + 1, 0, none⟩)]) (hg := rfl) (hFg := trivial) (eg := enters_of Try.func52 (by kernel_rfl) rfl)
    (hseq := counts1_all _ (by omega) cb bs hf cnt S R hist now W5 (fun t => t = 61 ∨ t = 77) (w.heap.size + 1) (w.heap.size + 1 + 1) hD5 hI h1 h2 hnow c5 n5 (by decide) (by decide) (by decide) (by decide) (by decide))
    (hKt := KeepsTy.trans) (hKb := fun W o o' ho hc hw => KeepsTy.record (by omega) ho hc hw) (hps := fun _ => rfl)
    (I := fun pre W => (∃ v, Boxed W w.heap.size 61 v ∧ W.ownsRow w.heap.size 77 2 v (List.length pre) (boxW pre) ∧ True) ∧ Below w.heap.size w W)
    (hI := OwnFrom.and (Own.from (holdsRow_own w.heap.size w.heap.size 61 77 2 (fun pre : List (ByteArray × Int) => pre.length) boxW (fun _ _ => True)) _) (ownFrom_below (Nat.le_refl _) (by omega)))
    (h0 := ⟨⟨_, x5, World.ownsRow_nil _ _ _ _, trivial⟩, hB45⟩)
  case hassign =>
    intro l x W K hK
    gi_wp2
    exact hK
  case hbody =>
    rintro l pre x W ⟨⟨v, hv, hrow, -⟩, hB⟩ hlt
    obtain ⟨A, c, rfl⟩ := own_form hrow
    have hvc := hv.cell
    have hz := hB.size
    obtain ⟨i0, hi, hz0, hz1, hz2⟩ := info_parts cnt_info
    gi_wp2_with (gi_at_builtin; refine wpListIn_append_own _ rfl _ _ 61 rfl w.heap.size 77 i0 (.agg #[.string ByteArray.empty, .int .i64 0]) 2 24 Try.underlying61 hi hz0 hz1 hz2 rfl (by decide) (Value.slice A pre.length c) pre.length (boxW pre) rfl (hrow.alloc _) ⟨W.heap.size, 0, none⟩ 1 1 [.string x.1, .int .i64 x.2] rfl rfl (cell_two_new _ _ _ _) (by simp [Value.oneCell']) (by unfold maxLen; omega) (by omega) (by simp; omega) ?_; intro v' w1 hown' hgrow _; obtain ⟨g', cap', rfl⟩ := ownsRow_succ hown'; obtain ⟨hv1, hv2, hr2, hk2, hb2⟩ := hv.appended (by decide) hrow hB.size (Nat.le_refl _) hown' hgrow; have hty := Boxed.appendedTy hv (B2 := W5.heap.size + 2) (T := fun t => t = 61 ∨ t = 77) (v' := .slice (some ⟨g', 0, none⟩) (pre.length + 1) cap') (by decide) hrow hgrow (.inl rfl) (.inr rfl); have hc1 := hv1.cell; have hf1 := hv1.frozen)
    refine ⟨hk2.from _, hty, ⟨⟨_, hv2, ?_, trivial⟩, hB.trans hb2⟩⟩
    have e : boxW (pre ++ [x]) = boxW pre ++ [Value.string x.1, Value.int .i64 x.2] := by unfold boxW; rw [List.map_append, List.flatMap_append]; rfl
    rw [e, List.length_append]
    exact hr2
  case hdone =>
    rintro D ys W hD ⟨ks, hS, rfl⟩ ⟨⟨v, hv, hrow, -⟩, hB⟩ hK
    obtain ⟨A, c, rfl⟩ := own_form hrow
    have hkn : ks.Nodup := hS.nodup_iff.2 HNS.out
    have hlen : (weighs hf hist now ks).length ≤ S.length := by
      have h1 := weighs_len hf hist now ks
      have h2 := hS.length_eq
      rw [List.length_map] at h2
      omega
    have hbx : boxW (weighs hf hist now ks) = ((weighs hf hist now ks).map rToCnt).flatMap cntEnc := rfl
    have hnd : ((weighs hf hist now ks).map rToCnt).Nodup := weighs_nodup hkn
    have hall : ∀ ms : List CntV, ((weighs hf hist now ks).map rToCnt).Perm ms → ms.Pairwise (fun x y => cntLt x y = true) → AllD hf hist now ms := fun ms hp hs => allD_ex HI.out HNS.out hf now hS hp hs
    have hml : (weighs hf hist now ks).length = ((weighs hf hist now ks).map rToCnt).length := by rw [List.length_map]
    rw [hbx] at hrow
    rw [hml] at hv hrow hlen
    clear hml hbx
    generalize (weighs hf hist now ks).map rToCnt = rs at *
    have hvc := hv.cell
    have hnr : some w.heap.size ≠ (Value.slice A rs.length c).ownBlock := hv.not_row (by decide) hrow
    have hnD : (Value.slice A rs.length c).ownBlock ≠ some D := fun e => by
      obtain ⟨c', fz, hc'⟩ := own_kindD hrow D e
      rw [hK] at hc'
      cases hc'
    have q := csort_any w.heap.size A c rs W hnd hrow (by omega)
    have Q := Lib.hid q
    have HP := Lib.hid hall
    have HB := Lib.hid hB
    have HROW := Lib.hid hrow
    have HK := Lib.hid hK
    have hrS : (rs.length : Int) ≤ 10000 := by omega
    clear q hall hnd hS hrow hB hK hkn hlen
    gi_wp2
    refine ⟨trivial, (callsIn_wide.2 Q.out).mono ?_⟩
    rintro e w3 ⟨rfl, ms, hp, hs, ho3, hk3⟩
    have hml : ms.length = rs.length := hp.length_eq.symm
    have hT : AllD hf hist now ms := HP.out ms hp hs
    have hb3 : Below w.heap.size w w3 := HB.out.trans (hk3.toBelow HB.out.size (fun j hj => (HROW.out.lt j hj).1))
    have hDl : D < W.heap.size := (Array.getElem?_eq_some_iff.1 HK.out).1
    have hK3 : w3.heap[D]? = some (.deferred (some [])) := (hk3.block D hDl hnD).trans HK.out
    have hv3 : w3.heap[w.heap.size]? = some (.cells #[.slice A rs.length c] 61 (0, 0)) := (hk3.block _ hv.lt (fun e => hnr e.symm)).trans hv
    have hc3 : w3.cell? ⟨w.heap.size, 0, none⟩ = some (.slice A rs.length c) := by simp [World.cell?, hv3]
    have hat : CntsAt w3 w3.heap.size A ms := by unfold CntsAt; rw [hml]; exact Reads.of_own ho3
    have hcap := own_capC ho3
    have hll := topM_le n rs.length
    have hzz := hb3.size
    have hq := clone_cnt A w3.heap.size (topM n rs.length) c (ms.take (topM n rs.length)) w3 (hat.take _ (by rw [hml]; exact hll)) (by omega)
    have fin : ∀ A9 c9 w9, w9.ownsRow w3.heap.size 77 2 (.slice A9 (topM n rs.length) c9) (topM n rs.length) ((ms.take (topM n rs.length)).flatMap cntEnc) → Below w3.heap.size w3 w9 → ∃ A c ts, Ending.returned (.slice A9 (topM n rs.length) c9) = .returned (.slice A (List.length ts) c) ∧ TopD hf hist now n ts ∧ (w9.putObj D (.deferred none)).ownsRow w.heap.size 77 2 (.slice A ts.length c) ts.length (ts.flatMap cntEnc) ∧ Below w.heap.size w (w9.putObj D (.deferred none)) := by
      intro A9 c9 w9 ho9 hb9
      have hlt : (ms.take (topM n rs.length)).length = topM n rs.length := by rw [List.length_take, hml]; omega
      have hK9 : w9.heap[D]? = some (.deferred (some [])) := (hb9.block D (Array.getElem?_eq_some_iff.1 hK3).1).trans hK3
      refine ⟨A9, c9, ms.take (topM n rs.length), by rw [hlt], ⟨ms, hT, by rw [hml]⟩, by rw [hlt]; exact ownsRow_putObj (own_base ho9 hzz) _ hK9 rfl, (hb3.trans (hb9.mono hzz)).trans (belowK_b (w := w) (Nat.le_refl _) w9 D _ _ (by omega) hK9 rfl rfl)⟩
    have hK9 : ∀ w9, Below w3.heap.size w3 w9 → w9.heap[D]? = some (.deferred (some [])) := fun w9 hb9 => (hb9.block D (Array.getElem?_eq_some_iff.1 hK3).1).trans hK3
    have FIN := Lib.hid fin
    have HK9 := Lib.hid hK9
    have HQ := Lib.hid hq
    clear fin hq hat hT hp hs ho3 hk3 hml hb3 hll hK9 hnr hnD hv3 hK3
    unfold topM at FIN HQ
    have hnm : max n 0 = n := by omega
    rw [hnm] at FIN HQ
    generalize rs.length = lr at *
    gi_wp2
    refine ⟨trivial, (callsIn_wide.2 HQ.out).mono ?_⟩
    rintro r w9 ⟨A9, c9, rfl, ho9, hb9⟩
    gi_wp2
    refine ⟨by simp, .inl ⟨_, _, rfl, run_takeDeferred (HK9.out _ hb9), ?_⟩⟩
    refine ⟨_, results_tmp rfl _ _ _, ?_⟩
    exact FIN.out A9 c9 _ ho9 hb9
end Go.Proofs.Ytgahopkbgefjdaa
