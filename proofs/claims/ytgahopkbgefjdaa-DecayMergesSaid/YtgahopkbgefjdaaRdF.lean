/- The reference's Trim (ciceroneref11); Trim of a counter, with its count. -/
import Derived.Test.YtgahopkbgefjdaaRdB
import Derived.Test.YtgahopkbgefjdaaDecN
import Derived.Test.YtgahopkbgefjdaaDecG
namespace Go.Proofs.Ytgahopkbgefjdaa
set_option linter.unusedVariables false
set_option linter.unusedSimpArgs false

/-- Is it the first of its key and tick that has a number? -/
def firstB (pre : List AddD) (a : AddD) : Bool := decide (0 < a.n) && !pre.any (fun b => decide (b.key = a.key) && decide (b.at_ = a.at_) && decide (0 < b.n))
/-- How many of l are gone, pre having been looked at. -/
def goneN (old : Int) : List AddD → List AddD → Nat
  | _, [] => 0
  | pre, a :: l => (if decide (a.at_ ≤ old) && firstB pre a then 1 else 0) + goneN old (pre ++ [a]) l
def goneL (old : Int) : List AddD → List AddD → List (ByteArray × Int)
  | _, [] => []
  | pre, a :: l => (if decide (a.at_ ≤ old) && firstB pre a then [(a.key, a.at_)] else []) ++ goneL old (pre ++ [a]) l
theorem goneL_len (old : Int) : ∀ pre l, (goneL old pre l).length = goneN old pre l
  | _, [] => rfl
  | pre, a :: l => by
    unfold goneL goneN
    rw [List.length_append, goneL_len old (pre ++ [a]) l]
    split <;> simp
theorem goneN_snoc (old : Int) (a : AddD) : ∀ pre l, goneN old pre (l ++ [a]) = goneN old pre l + (if decide (a.at_ ≤ old) && firstB (pre ++ l) a then 1 else 0)
  | pre, [] => by simp [goneN]
  | pre, b :: l => by
    rw [List.cons_append, goneN, goneN, goneN_snoc old a (pre ++ [b]) l, List.append_assoc, List.singleton_append]
    omega
theorem firstB_snoc (pre : List AddD) (b a : AddD) : firstB (pre ++ [b]) a = (firstB pre a && !(decide (b.key = a.key) && decide (b.at_ = a.at_) && decide (0 < b.n))) := by
  unfold firstB
  rw [List.any_append]
  simp [Bool.and_assoc]
theorem firstB_nil (a : AddD) : firstB [] a = decide (0 < a.n) := by unfold firstB; simp
theorem firstB_iff {pre : List AddD} {a : AddD} : firstB pre a = true ↔ 0 < a.n ∧ ∀ b ∈ pre, ¬ (b.key = a.key ∧ b.at_ = a.at_ ∧ 0 < b.n) := by
  unfold firstB
  rw [Bool.and_eq_true, decide_eq_true_eq, Bool.not_eq_true', List.any_eq_false]
  constructor
  · rintro ⟨h1, h2⟩
    exact ⟨h1, fun b hb h => h2 b hb (by simp [h.1, h.2.1, h.2.2])⟩
  · rintro ⟨h1, h2⟩
    refine ⟨h1, fun b hb h => h2 b hb ?_⟩
    simp only [Bool.and_eq_true, decide_eq_true_eq] at h
    exact ⟨h.1.1, h.1.2, h.2⟩
theorem mem_goneL {old : Int} {x : ByteArray × Int} : ∀ {pre l : List AddD}, x ∈ goneL old pre l ↔ x.2 ≤ old ∧ (∃ a ∈ l, a.key = x.1 ∧ a.at_ = x.2 ∧ 0 < a.n) ∧ ∀ b ∈ pre, ¬ (b.key = x.1 ∧ b.at_ = x.2 ∧ 0 < b.n)
  | pre, [] => by simp [goneL]
  | pre, a :: l => by
    unfold goneL
    rw [List.mem_append, mem_goneL (pre := pre ++ [a]) (l := l)]
    constructor
    · rintro (h | ⟨h1, ⟨c, hc, h2⟩, h3⟩)
      · split at h
        · rename_i hif
          simp only [Bool.and_eq_true, decide_eq_true_eq] at hif
          obtain ⟨h4, h5⟩ := firstB_iff.1 hif.2
          simp at h
          subst h
          exact ⟨hif.1, ⟨a, by simp, rfl, rfl, h4⟩, h5⟩
        · simp at h
      · exact ⟨h1, ⟨c, by simp [hc], h2⟩, fun b hb => h3 b (by simp [hb])⟩
    · rintro ⟨h1, ⟨c, hc, h2⟩, h3⟩
      by_cases ha : a.key = x.1 ∧ a.at_ = x.2 ∧ 0 < a.n
      · refine .inl ?_
        have hf : firstB pre a = true := firstB_iff.2 ⟨ha.2.2, fun b hb h => h3 b hb ⟨h.1.trans ha.1, h.2.1.trans ha.2.1, h.2.2⟩⟩
        rw [if_pos (by rw [hf, Bool.and_true, decide_eq_true_eq, ha.2.1]; exact h1)]
        simp [ha.1, ha.2.1]
      · refine .inr ⟨h1, ?_, fun b hb => ?_⟩
        · rcases List.mem_cons.1 hc with rfl | hc
          · exact absurd h2 ha
          · exact ⟨c, hc, h2⟩
        · rcases List.mem_append.1 hb with hb | hb
          · exact h3 b hb
          · simp at hb; subst hb; exact ha
theorem goneL_nodup (old : Int) : ∀ pre l, (goneL old pre l).Nodup
  | _, [] => List.nodup_nil
  | pre, a :: l => by
    unfold goneL
    split
    · rename_i hif
      simp only [Bool.and_eq_true, decide_eq_true_eq] at hif
      rw [List.singleton_append, List.nodup_cons]
      refine ⟨fun h => ?_, goneL_nodup old _ l⟩
      have := (mem_goneL.1 h).2.2 a (by simp)
      exact this ⟨rfl, rfl, (firstB_iff.1 hif.2).1⟩
    · exact goneL_nodup old _ l

/-- By keys and ticks. -/
def trimL (S : KeysL) (R : Nat → RowL) (old : Int) (ks : List ByteArray) : List (ByteArray × Int) := ks.flatMap fun k => ((mrow S R k).filter (np old)).map fun q => (k, q.1)
theorem trimL_len (S : KeysL) (R : Nat → RowL) (old : Int) : ∀ ks, (trimL S R old ks).length = trimN S R old ks
  | [] => rfl
  | k :: ks => by
    have ih := trimL_len S R old ks
    unfold trimL trimN at *
    rw [List.flatMap_cons, List.length_append, List.length_map, ih, List.map_cons, List.sum_cons]
theorem hist_delta_pos {k : ByteArray} {t : Int} : ∀ {hist : List AddD}, (∀ a ∈ hist, 0 ≤ a.n) → (0 ≤ histSum (fun a => if a = t then 1 else 0) k hist ∧ (0 < histSum (fun a => if a = t then 1 else 0) k hist ↔ ∃ a ∈ hist, a.key = k ∧ a.at_ = t ∧ 0 < a.n))
  | [], _ => by simp [histSum]
  | a :: l, hg => by
    obtain ⟨h1, h2⟩ := hist_delta_pos (k := k) (t := t) (hist := l) (fun b hb => hg b (by simp [hb]))
    have h0 := hg a (by simp)
    rw [histSum_cons]
    by_cases hm : a.key = k ∧ a.at_ = t
    · have e : histN (fun a => if a = t then 1 else 0) k a = a.n := by unfold histN; simp [hm.1, hm.2]
      rw [e]
      refine ⟨by omega, ?_⟩
      constructor
      · intro h
        by_cases hn : 0 < a.n
        · exact ⟨a, by simp, hm.1, hm.2, hn⟩
        · obtain ⟨b, hb, h⟩ := h2.1 (by omega)
          exact ⟨b, by simp [hb], h⟩
      · rintro ⟨b, hb, h⟩
        rcases List.mem_cons.1 hb with rfl | hb
        · have := h.2.2; omega
        · have := h2.2 ⟨b, hb, h⟩; omega
    · have e : histN (fun a => if a = t then 1 else 0) k a = 0 := by
        unfold histN
        by_cases hk : a.key = k
        · have ht : ¬ a.at_ = t := fun e => hm ⟨hk, e⟩
          simp [hk, ht]
        · rw [if_neg hk]
      rw [e, Int.zero_add]
      refine ⟨h1, h2.trans ⟨fun ⟨b, hb, h⟩ => ⟨b, by simp [hb], h⟩, fun ⟨b, hb, h⟩ => ?_⟩⟩
      rcases List.mem_cons.1 hb with rfl | hb
      · exact absurd ⟨h.1, h.2.1⟩ hm
      · exact ⟨b, hb, h⟩
theorem row_delta_pos {t : Int} {r : RowL} (hp : ∀ q ∈ r, 0 < q.2) : 0 < rowSum (fun a => if a = t then 1 else 0) r ↔ ∃ q ∈ r, q.1 = t := by
  constructor
  · intro h
    by_cases he : ∃ q ∈ r, q.1 = t
    · exact he
    · have : rowSum (fun a => if a = t then 1 else 0) r = 0 := by
        clear h hp
        induction r with
        | nil => rfl
        | cons q r ih =>
          have e2 : rowSum (fun a => if a = t then 1 else 0) (q :: r) = q.2 * (if q.1 = t then 1 else 0) + rowSum (fun a => if a = t then 1 else 0) r := rfl
          rw [e2, if_neg (fun e => he ⟨q, by simp, e⟩), ih (fun ⟨z, hz, e⟩ => he ⟨z, by simp [hz], e⟩)]
          simp
      omega
  · exact fun h => rowSum_delta hp h
section
variable {S : KeysL} {R : Nat → RowL} {hist : List AddD} {cnt : Int}
theorem mrow_pos (h : DecInv S R hist cnt) (k : ByteArray) : ∀ q ∈ mrow S R k, 0 < q.2 := by
  intro q hq
  unfold mrow at hq
  cases hg : mget S k with
  | none => rw [hg] at hq; simp at hq
  | some b => rw [hg] at hq; exact (h.pos _ (mget_some_mem hg) q hq).1
theorem mem_mrow (h : DecInv S R hist cnt) (k : ByteArray) (t : Int) : (∃ q ∈ mrow S R k, q.1 = t) ↔ ∃ a ∈ hist, a.key = k ∧ a.at_ = t ∧ 0 < a.n := by
  rw [← row_delta_pos (mrow_pos h k), h.eqs, (hist_delta_pos (fun a ha => (h.good a ha).1)).2]
theorem trim_is (h : DecInv S R hist cnt) (hS : (S.map (·.1)).Nodup) (hR : ∀ p ∈ S, ((R p.2).map (·.1)).Nodup) (old : Int) {ks : List ByteArray} (hk : ks.Perm (S.map (·.1))) : trimN S R old ks = goneN old [] hist := by
  rw [← trimL_len, ← goneL_len]
  have hks : ks.Nodup := hk.nodup_iff.2 hS
  have hrow : ∀ k, ((mrow S R k).map (·.1)).Nodup := fun k => by
    unfold mrow
    cases hg : mget S k with
    | none => exact List.nodup_nil
    | some b => exact hR _ (mget_some_mem hg)
  have hmem : ∀ x, x ∈ trimL S R old ks ↔ x ∈ goneL old [] hist := fun x => by
    rw [mem_goneL]
    unfold trimL
    rw [List.mem_flatMap]
    constructor
    · rintro ⟨k, hk', hx⟩
      obtain ⟨q, hq, rfl⟩ := List.mem_map.1 hx
      obtain ⟨h1, h2⟩ := List.mem_filter.1 hq
      exact ⟨by simpa [np] using h2, (mem_mrow h k q.1).1 ⟨q, h1, rfl⟩, by simp⟩
    · rintro ⟨h1, h2, _⟩
      obtain ⟨q, hq, e⟩ := (mem_mrow h x.1 x.2).2 h2
      refine ⟨x.1, hk.mem_iff.2 ?_, List.mem_map.2 ⟨q, List.mem_filter.2 ⟨hq, by unfold np; rw [e]; simpa using h1⟩, by rw [e]⟩⟩
      cases hg : mget S x.1 with
      | none => simp [mrow, hg] at hq
      | some b => exact List.mem_map.2 ⟨_, mget_some_mem hg, rfl⟩
  have hnd : (trimL S R old ks).Nodup := by
    unfold trimL
    unfold List.Nodup
    rw [List.pairwise_flatMap]
    refine ⟨fun k _ => ?_, ?_⟩
    · refine List.pairwise_map.2 ?_
      have h1 : ((mrow S R k).filter (np old)).Pairwise (fun a b => a.1 ≠ b.1) := (List.pairwise_map.1 (hrow k)).sublist List.filter_sublist
      exact h1.imp (fun {a b} h e => h (by injection e))
    · refine hks.imp (fun {a b} hne => ?_)
      intro x hx y hy e
      obtain ⟨q, _, rfl⟩ := List.mem_map.1 hx
      obtain ⟨q', _, rfl⟩ := List.mem_map.1 hy
      injection e with e1
      exact hne e1
  exact Nat.le_antisymm (nodup_len_le _ _ hnd (fun x hx => (hmem x).1 hx)) (nodup_len_le _ _ (goneL_nodup old [] hist) (fun x hx => (hmem x).2 hx))
end
end Go.Proofs.Ytgahopkbgefjdaa

namespace Go.Proofs.Ytgahopkbgefjdaa
open Go.ChangeShapes Go.WideShapes Go.ChangeAt Go.RowKit Go.Shelf Go.Lib Go.Sort Go.Proofs
set_option linter.unusedVariables false
set_option linter.unusedSimpArgs false

/-- What a trim of the counter leaves. -/
def DTrimNew (w : World) (cb : Nat) (F : Nat → Prop) (hf cnt : Int) (hist : List AddD) (now : Int) (e : Ending) (w' : World) : Prop :=
  e = .returned (.int .i64 (goneN (now - 21 * hf) [] hist)) ∧ ∃ F', DecObj w' cb F' hf cnt (hist.filter (hk (now - 21 * hf))) ∧ Upd F w F' w'
theorem goneN_none {old : Int} : ∀ {pre l : List AddD}, (∀ a ∈ l, old < a.at_) → goneN old pre l = 0
  | _, [], _ => rfl
  | pre, a :: l, h => by
    have h1 := h a (by simp)
    rw [goneN, goneN_none (fun b hb => h b (by simp [hb])), if_neg (by simp; omega)]
theorem filter_none {old : Int} {l : List AddD} (h : ∀ a ∈ l, old < a.at_) : l.filter (hk old) = l := List.filter_eq_self.2 (fun a ha => by unfold hk; simpa using h a ha)
set_option maxHeartbeats 400000 in
theorem dtrim2_any (cb : Nat) (F : Nat → Prop) (hf cnt : Int) (hist : List AddD) (now : Int) (w : World) (h : DecObj w cb F hf cnt hist) (n1 : now ≤ 9223372036854775807) (hl : (hist.length : Int) ≤ 100000) :
    Calls Try.prog 23 #[.pointer (some ⟨cb, 0, none⟩), .int .i64 now] w (DTrimNew w cb F hf cnt hist now) := by
  by_cases n0 : now < 0
  · have hg : ∀ a ∈ hist, now - 21 * hf < a.at_ := fun a ha => by
      obtain ⟨bs, S, R, _, hI, _, h1, _⟩ := h
      have := (hI.good a ha).2.1
      omega
    have fin : DTrimNew w cb F hf cnt hist now (.returned (.int .i64 0)) w := ⟨by rw [goneN_none hg]; rfl, F, by rw [filter_none hg]; exact h, Upd.refl _ _⟩
    have FIN := Lib.hid fin
    clear fin hg h
    go_enter Try.func23, Try.ntmps23
    go_wp2
    go_ret
    exact FIN.out
  · obtain ⟨bs, S, R, hD, hI, rfl, h1, h2⟩ := h
    refine (dtrim_any cb bs hf cnt S R hist now w hD hI h1 h2 (by omega) n1 (by have := hI.keys_le hD.sums.nodup; omega) (fun p hp => by have := hI.row_le hD.sums.nodup hp (hD.rows p hp).nodup; omega)).mono ?_
    rintro e w' ⟨S', R', done, rfl, hD', hT, hall, hK⟩
    refine ⟨by rw [trim_is hI hD.sums.nodup (fun p hp => (hD.rows p hp).nodup) _ (List.Perm.refl _)], _, ⟨bs, S', R', hD', hI.trim hT hD.sums.nodup hall, rfl, h1, h2⟩, hK, ?_⟩
    rintro k (rfl | rfl | ⟨p, hp, rfl⟩)
    · exact .inl (.inl rfl)
    · exact .inl (.inr (.inl rfl))
    · exact .inl (.inr (.inr ⟨p, hT.sub.subset hp, rfl⟩))

/-- What a trim of the reference leaves. -/
def RTrimNew (w : World) (mb : Nat) (F : Nat → Prop) (hf cnt : Int) (L : List AddD) (now : Int) (e : Ending) (w' : World) : Prop :=
  e = .returned (.int .i64 (goneN (now - 21 * hf) [] L)) ∧ ∃ F', RcO w' mb F' hf cnt (L.filter (hk (now - 21 * hf))) ∧ Keeps (fun k => k = mb) w w' ∧ ∀ k, F' k → F k ∨ w.heap.size ≤ k
theorem gone_take (old : Int) (l : List AddD) {k : Nat} (hk' : k < l.length) : goneN old [] (l.take (k + 1)) = goneN old [] (l.take k) + (if decide (l[k].at_ ≤ old) && firstB (l.take k) l[k] then 1 else 0) := by
  rw [List.take_succ_eq_append_getElem hk', goneN_snoc, List.nil_append]
theorem goneN_le (old : Int) : ∀ pre l, goneN old pre l ≤ l.length
  | _, [] => by simp [goneN]
  | pre, a :: l => by
    have := goneN_le old (pre ++ [a]) l
    rw [goneN, List.length_cons]
    split <;> omega
theorem kept_take (old : Int) (l : List AddD) {k : Nat} (hk' : k < l.length) : (l.take (k + 1)).filter (hk old) = (l.take k).filter (hk old) ++ (if old < l[k].at_ then [l[k]] else []) := by
  rw [List.take_succ_eq_append_getElem hk', List.filter_append]
  congr 1
  unfold hk
  by_cases h : old < l[k].at_ <;> simp [List.filter_cons, h]

set_option maxRecDepth 20000 in
set_option maxHeartbeats 8000000 in
theorem rtrim11_any (mb : Nat) (F : Nat → Prop) (hf cnt : Int) (L : List AddD) (now : Int) (w : World) (h : RcO w mb F hf cnt L) (hok : ∀ a ∈ L, addOk a = true) (hlen : (L.length : Int) ≤ 1000) (hh1 : 1 ≤ hf) (hh : hf ≤ 1099511627776) (n1 : now ≤ 9223372036854775807) :
    Calls Try.prog 24 #[.pointer (some ⟨mb, 0, none⟩), .int .i64 now] w (RTrimNew w mb F hf cnt L now) := by
  obtain ⟨A, c, hR, rfl⟩ := h
  obtain ⟨⟨c0, c1, c2⟩, -, -⟩ := three_cells hR.blk
  have hml : mb < w.heap.size := (Array.getElem?_eq_some_iff.1 hR.blk).1
  have HR := Lib.hid hR
  have HOK := Lib.hid hok
  clear hR hok c2
  obtain ⟨old, hold⟩ : ∃ old, old = now - 21 * hf := ⟨_, rfl⟩
  have hnz : ¬ hf = 0 := by omega
  have ho0 : (w.alloc (.cells #[] 30)).ownsRow w.heap.size 30 3 (.slice (some ⟨w.heap.size, 0, none⟩) 0 0) 0 [] := own_empty (Nat.le_refl _) (heap_alloc_new w _)
  have hb0 : Below w.heap.size w (w.alloc (.cells #[] 30)) := (Below.refl _ _).alloc (Nat.le_refl _) _
  go_enter Try.func24, Try.ntmps24
  go_wp2_with fail
  generalize w.alloc (.cells #[] 30) = W0 at *
  go_loopg [5, 6, 7] L.length (fun rest s n i wr => ∃ (k g cq : Nat) (out : List AddD) (gn : Nat), i = .int .i64 k ∧ Hid (k + rest = L.length) ∧ s = .slice (some ⟨g, 0, none⟩) out.length cq ∧ n = .int .i64 gn ∧ Hid (out = (L.take k).filter (hk old)) ∧ Hid (gn = goneN old [] (L.take k)) ∧
    wr.ownsRow w.heap.size 30 3 (.slice (some ⟨g, 0, none⟩) out.length cq) out.length (out.flatMap add3) ∧ Hid (Below w.heap.size w wr))
  case atStart => exact ⟨0, _, 0, [], 0, rfl, Lib.hid (by simp), rfl, rfl, Lib.hid (by simp), Lib.hid (by simp [goneN]), ho0, Lib.hid hb0⟩
  case round =>
    clear ho0 hb0
    obtain ⟨k, g, cq, out, gn, rfl, HK, rfl, rfl, HO, HGN, hown, HB⟩ := hrel
    have d0 := (HB.out.cell (p := ⟨mb, 0, none⟩) hml).trans c0
    have d1 := (HB.out.cell (p := ⟨mb, 1, none⟩) hml).trans c1
    have hol0 : (out.length : Int) ≤ (k : Int) := by
      have h1 := List.length_filter_le (hk old) (L.take k)
      have h2 := List.length_take_le k L
      have h3 := HO.out
      subst h3
      omega
    have hgn0 : (gn : Int) ≤ (k : Int) := by
      have h1 := goneN_le old [] (L.take k)
      have h2 := List.length_take_le k L
      have h3 := HGN.out
      omega
    by_cases hk' : (k : Int) < (L.length : Int)
    · have hkl : k < L.length := by omega
      have hat := HR.out.row.below HB.out
      have HAT := Lib.hid hat
      clear hat
      obtain ⟨b, o, hA, hbl, e1, e2, e3⟩ := HAT.out.one hkl
      subst hA
      obtain ⟨-, -, a0, a1, a2, a3⟩ := addOk_iff.1 (HOK.out _ (List.getElem_mem hkl))
      have HKT := Lib.hid (kept_take old L hkl)
      have HGT := Lib.hid (gone_take old L hkl)
      have HFN : Hid (firstB ([] : List AddD) L[k] = decide (0 < (L[k]).n)) := Lib.hid (firstB_nil _)
      have HFS : Hid (∀ (m : Nat) (hm : m < L.length), firstB (L.take (m + 1)) L[k] = (firstB (L.take m) L[k] && !(decide ((L[m]).key = (L[k]).key) && decide ((L[m]).at_ = (L[k]).at_) && decide (0 < (L[m]).n)))) := Lib.hid (fun m hm => by rw [List.take_succ_eq_append_getElem hm, firstB_snoc])
      generalize L[k] = y at *
      by_cases hkeep : old < y.at_
      · have HO2 : Hid (out ++ [y] = (L.take (k + 1)).filter (hk old)) := Lib.hid (by rw [HKT.out, if_pos hkeep, HO.out])
        have HG2 : Hid (gn = goneN old [] (L.take (k + 1))) := Lib.hid (by rw [HGT.out, if_neg (by simp; omega), Nat.add_zero]; exact HGN.out)
        clear HFN HFS
        have hcap := own_capC hown
        have fin : ∀ (W : World) (q : Nat), W = wr.drewN q → W.ownsRow w.heap.size 30 3 (.slice (some ⟨g, 0, none⟩) out.length cq) out.length (out.flatMap add3) := fun W q e => by rw [e]; exact (Keeps.ofBelow (below_drewN (Below.refl _ _) q) noF).own hown (fun _ _ e => e)
        have FIN := Lib.hid fin
        clear fin hown hcap
        by_cases n0 : now < 0
        · have q0 : decide (now < 0) = true := by simpa using n0
          go_wp2_with fail
          go_quiet (fail)
          clear q0
          have FIN2 := Lib.hid (FIN.out _ nq rfl)
          have hbq : Below w.heap.size w (wr.drewN nq) := below_drewN HB.out _
          have HBQ := Lib.hid hbq
          have hzq : w.heap.size ≤ (wr.drewN nq).heap.size := hbq.size
          clear hbq FIN
          go_wp2_with (at_builtin; refine wpList_append_one (wr.drewN nq) rfl _ _ _ rfl w.heap.size 30 (.agg #[.string ByteArray.empty, .int .i64 0, .int .i64 0]) 3 32 Try.underlying37 add3_info rfl (by decide) (some ⟨g, 0, none⟩) out.length cq _ rfl FIN2.out [.string y.key, .int .i64 y.at_, .int .i64 y.n] rfl rfl (add3_one1 _ _ _) (by omega) (by unfold maxLen; omega) hzq ?_; intro A5 c5 w5 hown5 hg5 hb5)
          obtain ⟨g5, cap5, hv5, _, _⟩ := hown5.form (by omega)
          injection hv5 with hv5
          subst hv5
          go_roundg (gk - 1)
          case measure => have := HK.out; omega
          case rel =>
            have hln : (out ++ [y]).length = out.length + 1 := by simp
            refine ⟨k + 1, g5, c5, out ++ [y], gn, by go_num, Lib.hid (by have := HK.out; omega), by rw [hln], rfl, HO2, HG2, ?_, Lib.hid (HBQ.out.trans hb5)⟩
            rw [hln, List.flatMap_append]
            exact hown5
        · have q0 : decide (now < 0) = false := by simpa using n0
          by_cases t0 : now < y.at_
          · have q1 : decide (now < y.at_) = true := by simpa using t0
            go_wp2_with fail
            go_quiet (fail)
            clear q1 q0
            have FIN2 := Lib.hid (FIN.out _ nq rfl)
            have hbq : Below w.heap.size w (wr.drewN nq) := below_drewN HB.out _
            have HBQ := Lib.hid hbq
            have hzq : w.heap.size ≤ (wr.drewN nq).heap.size := hbq.size
            clear hbq FIN
            go_wp2_with (at_builtin; refine wpList_append_one (wr.drewN nq) rfl _ _ _ rfl w.heap.size 30 (.agg #[.string ByteArray.empty, .int .i64 0, .int .i64 0]) 3 32 Try.underlying37 add3_info rfl (by decide) (some ⟨g, 0, none⟩) out.length cq _ rfl FIN2.out [.string y.key, .int .i64 y.at_, .int .i64 y.n] rfl rfl (add3_one1 _ _ _) (by omega) (by unfold maxLen; omega) hzq ?_; intro A5 c5 w5 hown5 hg5 hb5)
            obtain ⟨g5, cap5, hv5, _, _⟩ := hown5.form (by omega)
            injection hv5 with hv5
            subst hv5
            go_roundg (gk - 1)
            case measure => have := HK.out; omega
            case rel =>
              have hln : (out ++ [y]).length = out.length + 1 := by simp
              refine ⟨k + 1, g5, c5, out ++ [y], gn, by go_num, Lib.hid (by have := HK.out; omega), by rw [hln], rfl, HO2, HG2, ?_, Lib.hid (HBQ.out.trans hb5)⟩
              rw [hln, List.flatMap_append]
              exact hown5
          · have q1 : decide (now < y.at_) = false := by simpa using t0
            have w1 : IntKind.i64.wrap (now - y.at_) = now - y.at_ := IntWalk.i64_in _ (by omega)
            have hq1 : (now - y.at_).tdiv hf = (now - y.at_) / hf := Int.tdiv_eq_ediv_of_nonneg (by omega)
            have hq2 : 0 ≤ (now - y.at_) / hf := Int.ediv_nonneg (by omega) (by omega)
            have hq3 : (now - y.at_) / hf ≤ now - y.at_ := Int.ediv_le_self _ (by omega)
            have hq4 : (now - y.at_) / hf < 21 ↔ now - y.at_ < 21 * hf := Int.ediv_lt_iff_lt_mul (by omega)
            generalize (now - y.at_) / hf = q at *
            have HQ : Hid (q < 21 ↔ now - y.at_ < 21 * hf) := Lib.hid hq4
            have w2 : (now - y.at_).tdiv hf = q := hq1
            have w3 : IntKind.i64.wrap q = q := IntWalk.i64_in _ (by omega)
            have w4 : IntKind.i64.wrap ((now - y.at_).tdiv hf) = q := by rw [w2, w3]
            clear hq1 hq4
            have hq21 : q < 21 := by have := HQ.out; omega
            have q2 : decide (q < 21) = true := by simpa using hq21
            go_wp2_with fail
            go_quiet (fail)
            clear q2 hq21 w2 w3 w4 w1 q1 q0
            have FIN2 := Lib.hid (FIN.out _ nq rfl)
            have hbq : Below w.heap.size w (wr.drewN nq) := below_drewN HB.out _
            have HBQ := Lib.hid hbq
            have hzq : w.heap.size ≤ (wr.drewN nq).heap.size := hbq.size
            clear hbq FIN
            go_wp2_with (at_builtin; refine wpList_append_one (wr.drewN nq) rfl _ _ _ rfl w.heap.size 30 (.agg #[.string ByteArray.empty, .int .i64 0, .int .i64 0]) 3 32 Try.underlying37 add3_info rfl (by decide) (some ⟨g, 0, none⟩) out.length cq _ rfl FIN2.out [.string y.key, .int .i64 y.at_, .int .i64 y.n] rfl rfl (add3_one1 _ _ _) (by omega) (by unfold maxLen; omega) hzq ?_; intro A5 c5 w5 hown5 hg5 hb5)
            obtain ⟨g5, cap5, hv5, _, _⟩ := hown5.form (by omega)
            injection hv5 with hv5
            subst hv5
            go_roundg (gk - 1)
            case measure => have := HK.out; omega
            case rel =>
              have hln : (out ++ [y]).length = out.length + 1 := by simp
              refine ⟨k + 1, g5, c5, out ++ [y], gn, by go_num, Lib.hid (by have := HK.out; omega), by rw [hln], rfl, HO2, HG2, ?_, Lib.hid (HBQ.out.trans hb5)⟩
              rw [hln, List.flatMap_append]
              exact hown5
      · have HO2 : Hid (out = (L.take (k + 1)).filter (hk old)) := Lib.hid (by rw [HKT.out, if_neg hkeep, List.append_nil]; exact HO.out)
        have hg2 : goneN old [] (L.take (k + 1)) = gn + (if firstB (L.take k) y then 1 else 0) := by
          rw [HGT.out, show decide (y.at_ ≤ old) = true by simp; omega, Bool.true_and, ← HGN.out]
        have HG2 := Lib.hid hg2
        clear hg2 HGT HKT
        have n0 : ¬ now < 0 := by omega
        have t0 : ¬ now < y.at_ := by omega
        have q0 : decide (now < 0) = false := by simpa using n0
        have q1 : decide (now < y.at_) = false := by simpa using t0
        have w1 : IntKind.i64.wrap (now - y.at_) = now - y.at_ := IntWalk.i64_in _ (by omega)
        have hq1 : (now - y.at_).tdiv hf = (now - y.at_) / hf := Int.tdiv_eq_ediv_of_nonneg (by omega)
        have hq2 : 0 ≤ (now - y.at_) / hf := Int.ediv_nonneg (by omega) (by omega)
        have hq3 : (now - y.at_) / hf ≤ now - y.at_ := Int.ediv_le_self _ (by omega)
        have hq4 : (now - y.at_) / hf < 21 ↔ now - y.at_ < 21 * hf := Int.ediv_lt_iff_lt_mul (by omega)
        generalize (now - y.at_) / hf = q at *
        have HQ : Hid (q < 21 ↔ now - y.at_ < 21 * hf) := Lib.hid hq4
        have w2 : (now - y.at_).tdiv hf = q := hq1
        have w3 : IntKind.i64.wrap q = q := IntWalk.i64_in _ (by omega)
        have w4 : IntKind.i64.wrap ((now - y.at_).tdiv hf) = q := by rw [w2, w3]
        clear hq1 hq4
        have hq21 : ¬ q < 21 := by have := HQ.out; omega
        have q2 : decide (q < 21) = false := by simpa using hq21
        go_wp2_with fail
        go_quiet (fail)
        clear q2 hq21 w2 w3 w4 w1 q1 q0 n0 t0
        have hown2 : ∀ W, Below wr.heap.size wr W → W.ownsRow w.heap.size 30 3 (.slice (some ⟨g, 0, none⟩) out.length cq) out.length (out.flatMap add3) := fun W hb => (Keeps.ofBelow hb noF).own hown (fun _ _ e => e)
        have HOW := Lib.hid hown2
        clear hown hown2
        go_wp2_with fail
        generalize gk = g2 at *
        obtain ⟨wo, rfl⟩ : ∃ wo : World, wo = wr := ⟨_, rfl⟩
        go_loopg [8, 9] k (fun rest f j wx => ∃ m : Nat, j = .int .i64 m ∧ Hid (m + rest = k) ∧ f = .bool (firstB (L.take m) y) ∧ Hid (Below wo.heap.size wo wx))
        case atStart => exact ⟨0, rfl, Lib.hid (by simp), by rw [List.take_zero, HFN.out], Lib.hid (below_drewN (Below.refl _ _) _)⟩
        case round =>
          obtain ⟨m, rfl, HM, rfl, HBM⟩ := hrel
          have hbo : b < wo.heap.size := Nat.lt_of_lt_of_le hbl HB.out.size
          have hmo : mb < wo.heap.size := Nat.lt_of_lt_of_le hml HB.out.size
          have e1r := (HBM.out.cell (p := ⟨b, o + k * 3, none⟩) hbo).trans e1
          have e2r := (HBM.out.cell (p := ⟨b, o + k * 3 + 1, none⟩) hbo).trans e2
          have e3r := (HBM.out.cell (p := ⟨b, o + k * 3 + 2, none⟩) hbo).trans e3
          have d0r := (HBM.out.cell (p := ⟨mb, 0, none⟩) hmo).trans d0
          have d1r := (HBM.out.cell (p := ⟨mb, 1, none⟩) hmo).trans d1
          by_cases hm : (m : Int) < (k : Int)
          · have hmk : m < k := by omega
            have hmL : m < L.length := by omega
            have hdm : decide (m < k) = true := by simpa using hmk
            obtain ⟨b', o', e', hbl', f1, f2, f3⟩ := (HAT.out.below (HBM.out.mono (Nat.le_trans (Nat.le_refl _) HB.out.size))).one hmL
            injection e' with e'
            injection e' with e4 e5
            subst e4 e5
            have hfs := HFS.out m hmL
            generalize L[m] = z at *
            generalize firstB (L.take m) y = fb at *
            by_cases hkey : z.key = y.key
            · have he : (z.key.toList == y.key.toList) = true := by rw [str_beq]; simpa using hkey
              by_cases hat' : z.at_ = y.at_
              · have ha : (z.at_ == y.at_) = true := by simpa using hat'
                by_cases hzn : 0 < z.n
                · have HF2 : Hid (firstB (L.take (m + 1)) y = false) := Lib.hid (by rw [hfs]; simp [hkey, hat', hzn])
                  have HZN := Lib.hid hzn
                  clear hfs hkey hat'
                  go_wp2_with fail
                  go_quiet (fail)
                  go_wp2
                  go_roundg (gk - 1)
                  case measure => have := HM.out; omega
                  case rel => exact ⟨m + 1, by go_num, Lib.hid (by have := HM.out; omega), by rw [HF2.out], Lib.hid (below_drewN HBM.out _)⟩
                · have HF2 : Hid (firstB (L.take (m + 1)) y = fb) := Lib.hid (by rw [hfs]; simp [hzn])
                  clear hfs hkey hat'
                  go_wp2_with fail
                  go_quiet (fail)
                  go_wp2
                  go_roundg (gk - 1)
                  case measure => have := HM.out; omega
                  case rel => exact ⟨m + 1, by go_num, Lib.hid (by have := HM.out; omega), by rw [HF2.out], Lib.hid (below_drewN HBM.out _)⟩
              · have ha : (z.at_ == y.at_) = false := by simpa using hat'
                have HF2 : Hid (firstB (L.take (m + 1)) y = fb) := Lib.hid (by rw [hfs]; simp [hat'])
                clear hfs hkey hat'
                go_wp2_with fail
                go_quiet (fail)
                go_wp2
                go_roundg (gk - 1)
                case measure => have := HM.out; omega
                case rel => exact ⟨m + 1, by go_num, Lib.hid (by have := HM.out; omega), by rw [HF2.out], Lib.hid (below_drewN HBM.out _)⟩
            · have he : (z.key.toList == y.key.toList) = false := by rw [str_beq]; simpa using hkey
              have HF2 : Hid (firstB (L.take (m + 1)) y = fb) := Lib.hid (by rw [hfs]; simp [hkey])
              clear hfs hkey
              go_wp2_with fail
              go_quiet (fail)
              go_wp2
              go_roundg (gk - 1)
              case measure => have := HM.out; omega
              case rel => exact ⟨m + 1, by go_num, Lib.hid (by have := HM.out; omega), by rw [HF2.out], Lib.hid (below_drewN HBM.out _)⟩
          · have hdm : decide (m < k) = false := by simpa using (by omega : k ≤ m)
            obtain rfl : m = k := by have := HM.out; omega
            have HOW2 := Lib.hid (HOW.out _ HBM.out)
            have HB2 : Hid (Below w.heap.size w wr) := Lib.hid (HB.out.trans (HBM.out.mono HB.out.size))
            generalize firstB (L.take m) y = fb at *
            cases fb with
            | true =>
              have HG3 : Hid (gn + 1 = goneN old [] (L.take (m + 1))) := Lib.hid (by have := HG2.out; rw [this]; simp)
              clear HG2
              go_wp2
              go_roundg (g2 - 1)
              case measure => have := HK.out; omega
              case rel => exact ⟨m + 1, g, cq, out, gn + 1, by go_num, Lib.hid (by have := HK.out; omega), rfl, by go_num, HO2, HG3, HOW2.out, HB2⟩
            | false =>
              have HG3 : Hid (gn = goneN old [] (L.take (m + 1))) := Lib.hid (by have := HG2.out; rw [this]; simp)
              clear HG2
              go_wp2
              go_roundg (g2 - 1)
              case measure => have := HK.out; omega
              case rel => exact ⟨m + 1, g, cq, out, gn, by go_num, Lib.hid (by have := HK.out; omega), rfl, rfl, HO2, HG3, HOW2.out, HB2⟩
    · have hall : L.take k = L := List.take_of_length_le (by omega)
      have hO := HO.out
      have hG := HGN.out
      rw [hall] at hO hG
      have hcb : RcB wr mb hf A L.length c cnt := (HB.out.block mb hml).trans HR.out.blk
      obtain ⟨⟨x0, x1, x2⟩, y1, y2⟩ := three_cells hcb
      have hcb2 : RcB (wr.setCell ⟨mb, 1, none⟩ (.slice (some ⟨g, 0, none⟩) out.length cq)) mb hf (some ⟨g, 0, none⟩) out.length cq cnt := (three_set hcb).1 _
      have hown2 := ownsRow_setCell_below (a := ⟨mb, 1, none⟩) hown (show mb < w.heap.size from hml) (.slice (some ⟨g, 0, none⟩) out.length cq)
      have hgl := hown2.lt g rfl
      have fin : RTrimNew w mb (fun k => k = mb ∨ rowF A k) hf cnt L now (.returned (.int .i64 gn)) (wr.setCell ⟨mb, 1, none⟩ (.slice (some ⟨g, 0, none⟩) out.length cq)) := by
        refine ⟨by rw [← hold, ← hG], fun k => k = mb ∨ rowF (some ⟨g, 0, none⟩) k, ⟨some ⟨g, 0, none⟩, cq, ⟨by rw [← hold, ← hO]; exact hcb2, by rw [← hold, ← hO]; exact Reads.of_own hown2, (fun h => by cases h), ?_, ?_⟩, rfl⟩, Keeps.setCell (F := fun k => k = mb) (p := ⟨mb, 1, none⟩) (Keeps.ofBelow HB.out (fun k => k = mb)) (.inr rfl) _, ?_⟩
        · rintro ⟨o, sp, e⟩
          injection e with e
          injection e with e
          omega
        · rintro k' ⟨o, sp, e⟩
          injection e with e
          injection e with e
          omega
        · rintro k' (rfl | ⟨o, sp, e⟩)
          · exact .inl (.inl rfl)
          · injection e with e
            injection e with e
            exact .inr (by omega)
      have FIN := Lib.hid fin
      clear fin hO hG hall hcb hcb2 hown hown2 HO HGN hgl d0 d1
      go_wp2
      go_ret
      exact FIN.out
end Go.Proofs.Ytgahopkbgefjdaa
