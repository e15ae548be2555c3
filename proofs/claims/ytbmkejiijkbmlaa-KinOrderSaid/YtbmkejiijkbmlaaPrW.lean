/- For kin.Among: slices.BinarySearch of a row in order; maps of fractions; plain steps of the best ones. -/
import Derived.Test.YtbmkejiijkbmlaaPrV
import Derived.Test.YtbmkejiijkbmlaaLayM
namespace Go.Proofs.Ytbmkejiijkbmlaa
open Go.ChangeShapes Go.WideShapes Go.ChangeAt Go.RowKit Go.Shelf Go.Lib Go.Sort Go.Proofs
set_option linter.unusedVariables false
set_option linter.unusedSimpArgs false

theorem binS_any (A : Option Addr) (c B : Nat) (T : List ByteArray) (x : ByteArray) (w : World) (h : StrsAt w B A T) (hT : T.Pairwise (fun x y => sLt x y = true)) (hl : (T.length : Int) ≤ 1000000) :
    Calls Try.prog 33 #[.slice A T.length c, .string x] w fun e w' => ∃ i : Int, e = .returned (.tuple #[.int .i64 i, .bool (decide (x ∈ T))]) ∧ ∃ q, w' = w.drewN q := by
  cases hTe : T with
  | nil =>
    refine (Any2.slices_BinarySearch_string_empty (P := Try.prog) (ρ := Try.binS_ren) Try.binS A c x w).mono ?_
    rintro e w' ⟨rfl, rfl⟩
    exact ⟨0, by simp, 0, rfl⟩
  | cons t0 T0 =>
    rw [← hTe]
    have hpos : 0 < T.length := by rw [hTe]; simp
    obtain ⟨b, o, rfl, hb, hc⟩ := h.1.2 hpos
    obtain ⟨Sx, hSx⟩ : ∃ Sx : Nat → ByteArray, Sx = fun t => T.getD t x := ⟨_, rfl⟩
    have hin : ∀ t (ht : t < T.length), Sx t = T[t] := fun t ht => by rw [hSx]; simp [ht]
    have hout : ∀ t, T.length ≤ t → Sx t = x := fun t ht => by rw [hSx]; simp [ht]
    obtain ⟨k, hk⟩ : ∃ k, k = (T.takeWhile (fun y => sLt y x)).length := ⟨_, rfl⟩
    have hkl : k ≤ T.length := by rw [hk]; exact (List.takeWhile_sublist _).length_le
    have h1 : ∀ t, t < k → Op.bytesLess (Sx t).toList x.toList = true := fun t ht => by
      have htl : t < T.length := by omega
      rw [hin t htl]
      have hp := List.takeWhile_prefix (l := T) (fun y => sLt y x)
      obtain ⟨r, hr⟩ := hp
      have e : T[t] = (T.takeWhile (fun y => sLt y x))[t]'(by omega) := by
        have : T[t]? = (T.takeWhile (fun y => sLt y x))[t]? := by
          conv => lhs; rw [← hr]
          rw [List.getElem?_append_left (by omega)]
        rw [List.getElem?_eq_getElem htl, List.getElem?_eq_getElem (by omega)] at this
        exact Option.some.inj this
      have hm := List.all_eq_true.1 (List.all_takeWhile (l := T) (p := fun y => sLt y x)) T[t] (by rw [e]; exact List.getElem_mem _)
      exact hm
    have hkx : ∀ hlt : k < T.length, sLt T[k] x = false := fun hlt => by
      cases e : sLt T[k] x with
      | false => rfl
      | true =>
        exfalso
        have hd : T.takeWhile (fun y => sLt y x) ++ T.dropWhile (fun y => sLt y x) = T := List.takeWhile_append_dropWhile
        have hne : T.dropWhile (fun y => sLt y x) ≠ [] := fun h0 => by
          rw [h0, List.append_nil] at hd
          rw [hd] at hk
          omega
        obtain ⟨y, ys, hys⟩ := List.exists_cons_of_ne_nil hne
        have hy := List.head_dropWhile_not (fun y => sLt y x) hne
        have e2 : T[k] = y := by
          have : T[k]? = some y := by
            conv => lhs; rw [← hd]
            rw [List.getElem?_append_right (by omega), ← hk, Nat.sub_self, hys]
            rfl
          rw [List.getElem?_eq_getElem hlt] at this
          exact Option.some.inj this
        simp only [hys, List.head_cons] at hy
        rw [← e2, e] at hy
        simp at hy
    have hord : ∀ i j (hi : i < j) (hj : j < T.length), sLt T[i] T[j] = true := fun i j hi hj => List.pairwise_iff_getElem.1 hT i j (by omega) hj hi
    have h2 : ∀ t, k ≤ t → Op.bytesLess (Sx t).toList x.toList = false := fun t ht => by
      show sLt (Sx t) x = false
      by_cases htl : t < T.length
      · rw [hin t htl]
        rcases Nat.lt_or_eq_of_le ht with h | h
        · cases e : sLt T[t] x with
          | false => rfl
          | true =>
            have := sLt_trans (hord k t h htl) e
            rw [hkx (by omega)] at this
            cases this
        · subst h
          exact hkx htl
      · rw [hout t (by omega)]
        exact sLt_irrefl x
    have hgo := bsGo_spec (fun t => Op.bytesLess (Sx t).toList x.toList) k h1 h2 T.length 0 T.length (by omega) (by omega) hkl
    have q := Any2.slices_BinarySearch_string (P := Try.prog) (ρ := Try.binS_ren) Try.binS b o T.length c Sx x w (by omega) (fun j hj => by
      rw [hin j hj]
      exact hc j _ (by rw [List.getElem?_map, List.getElem?_eq_getElem hj]; rfl))
    rw [hgo] at q
    refine q.mono ?_
    rintro e w' ⟨rfl, hq⟩
    refine ⟨(k : Int), ?_, hq⟩
    have : decide (k < T.length ∧ Sx k = x) = decide (x ∈ T) := by
      rw [decide_eq_decide]
      constructor
      · rintro ⟨hlt, e⟩
        rw [hin k hlt] at e
        rw [← e]
        exact List.getElem_mem _
      · intro hx
        obtain ⟨j, hj, e⟩ := List.getElem_of_mem hx
        have hkj : k ≤ j := by
          rcases Nat.lt_or_ge j k with h | h
          · have := h1 j h
            rw [hin j hj, e] at this
            have h3 := sLt_irrefl x
            unfold sLt at h3
            rw [h3] at this
            cases this
          · exact h
        rcases Nat.lt_or_eq_of_le hkj with h | h
        · have := hord k j h hj
          rw [e, hkx (by omega)] at this
          cases this
        · subst h
          exact ⟨hj, by rw [hin k hj, e]⟩
    rw [this]

def ratVf (r : Int × Int) : Value := .agg #[.int .i64 r.1, .int .i64 r.2]
theorem zero_rat (w : World) : (zeroValue 28).run Try.prog w = .ok (.agg #[.int .i64 0, .int .i64 0]) w := by kernel_rfl
abbrev BestL := List (ByteArray × (Int × Int))

/-- The best ones when a part of what is near a has been told. -/
def BestIn (L : List (List ByteArray)) (T : List ByteArray) (floor : Int) (done : List ByteArray) (a : ByteArray) (told : List ByteArray) (M : BestL) : Prop := ∀ x, mget M x = if x ∈ told then stepB L T floor x (bestF L T floor done x) a else bestF L T floor done x
section
variable {L : List (List ByteArray)} {T : List ByteArray} {floor : Int} {done : List ByteArray} {a : ByteArray} {told : List ByteArray} {M : BestL}
theorem BestIn.start (h : ∀ x, mget M x = bestF L T floor done x) : BestIn L T floor done a [] M := fun x => by simp [h x]
/-- One that is asked for is passed by. -/
theorem BestIn.skip (h : BestIn L T floor done a told M) {k : ByteArray} (hk : k ∈ T) : BestIn L T floor done a (told ++ [k]) M := fun x => by
  rw [h x]
  by_cases e : x = k
  · subst e
    have : stepB L T floor x (bestF L T floor done x) a = bestF L T floor done x := by
      unfold stepB
      rw [if_neg (fun ht => ht.1 hk)]
    simp [this]
  · simp [e]
theorem BestIn.old (h : BestIn L T floor done a told M) {k : ByteArray} (hn : k ∉ told) : mget M k = bestF L T floor done k := by rw [h k, if_neg hn]
/-- One whose likeness is no better stays. -/
theorem BestIn.stay (h : BestIn L T floor done a told M) {k : ByteArray} (hn : k ∉ told) (ht : Told L T floor a k) {r : Int × Int} (ho : mget M k = some r) (hc : ¬ 0 < cmpInt (likeNum L a k * r.2) (r.1 * likeDen L a k)) : BestIn L T floor done a (told ++ [k]) M := fun x => by
  by_cases e : x = k
  · subst e
    have e1 := h.old hn
    rw [ho] at e1
    rw [ho, ← e1]
    simp [stepB, ht, upB, hc]
  · rw [h x]
    simp [e]
/-- A better one is set. -/
theorem BestIn.set (h : BestIn L T floor done a told M) {k : ByteArray} (hn : k ∉ told) (ht : Told L T floor a k) (hc : ∀ r, mget M k = some r → 0 < cmpInt (likeNum L a k * r.2) (r.1 * likeDen L a k)) : BestIn L T floor done a (told ++ [k]) (mput M k (likeNum L a k, likeDen L a k)) := fun x => by
  rw [mget_mput]
  by_cases e : x = k
  · subst e
    have e1 := h.old hn
    rw [if_pos rfl, ← e1]
    cases hm : mget M x with
    | none => simp [stepB, ht, upB]
    | some r => simp [stepB, ht, upB, hc r hm]
  · rw [if_neg e, h x]
    simp [e]
theorem BestIn.out (h : BestIn L T floor done a told M) (ht : ∀ x, x ∉ told → ¬ Told L T floor a x) : ∀ x, mget M x = bestF L T floor (done ++ [a]) x := fun x => by
  rw [h x, bestF_snoc]
  by_cases e : x ∈ told
  · rw [if_pos e]
  · rw [if_neg e]
    unfold stepB
    rw [if_neg (ht x e)]
end
def toNear (p : ByteArray × (Int × Int)) : NearV := ⟨p.1, p.2.1, p.2.2⟩
theorem amongOf_of {L : List (List ByteArray)} {T : List ByteArray} {floor : Int} {M : BestL} {rs ms : List NearV} (hM : ∀ x, mget M x = bestF L T floor T x) (hn : (M.map (·.1)).Nodup) (hp : rs.Perm (M.map toNear)) (hp2 : rs.Perm ms) (hs : ms.Pairwise (fun x y => nearLt x y = true)) : AmongOf L T floor ms := by
  refine ⟨hs, fun r => ?_⟩
  rw [← hp2.mem_iff, hp.mem_iff, ← hM]
  constructor
  · intro hr
    obtain ⟨⟨k, n, d⟩, hp', rfl⟩ := List.mem_map.1 hr
    exact mget_of_mem hn hp'
  · intro h
    exact List.mem_map.2 ⟨_, mget_some_mem h, rfl⟩
theorem best_ok {L : List (List ByteArray)} {T : List ByteArray} {floor : Int} {M : BestL} {rs : List NearV} (hL : (L.length : Int) ≤ 100000) (hM : ∀ x, mget M x = bestF L T floor T x) (hn : (M.map (·.1)).Nodup) (hp : rs.Perm (M.map toNear)) : (∀ r ∈ rs, NearOk r) ∧ (rs.map (·.item)).Nodup ∧ rs.length ≤ L.flatten.length := by
  have hall : ∀ p ∈ M, ∃ a ∈ T, Told L T floor a p.1 ∧ p.2.1 = likeNum L a p.1 ∧ p.2.2 = likeDen L a p.1 := fun p hp' => by
    have := mget_of_mem hn hp'
    rw [hM] at this
    exact bestF_some this
  have hit : (rs.map (·.item)).Nodup := by
    have h1 := hp.map (·.item)
    rw [h1.nodup_iff, List.map_map]
    exact hn
  refine ⟨fun r hr => ?_, hit, ?_⟩
  · obtain ⟨p, hp', rfl⟩ := List.mem_map.1 (hp.mem_iff.1 hr)
    obtain ⟨a, -, -, e1, e2⟩ := hall p hp'
    have h1 := likeNum_bd L a p.1 hL
    have h2 := likeDen_bd L a p.1 hL
    unfold toNear NearOk
    simp only [e1, e2]
    exact ⟨h1.1, h1.2, h2.1, h2.2⟩
  · have := nodup_len hit (m := L.flatten) (fun k hk => by
      obtain ⟨r, hr, rfl⟩ := List.mem_map.1 hk
      obtain ⟨p, hp', rfl⟩ := List.mem_map.1 (hp.mem_iff.1 hr)
      obtain ⟨a, -, ⟨-, h2, -⟩, -⟩ := hall p hp'
      unfold pairF at h2
      split at h2
      · omega
      · unfold cnt2 at h2
        have h2 : 0 < L.countP (fun s => decide (a ∈ s ∧ p.1 ∈ s)) := by omega
        obtain ⟨s, hs, h3⟩ := List.countP_pos_iff.1 h2
        exact List.mem_flatten.2 ⟨s, hs, (by simpa using h3 : a ∈ s ∧ p.1 ∈ s).2⟩)
    simpa using this
end Go.Proofs.Ytbmkejiijkbmlaa
