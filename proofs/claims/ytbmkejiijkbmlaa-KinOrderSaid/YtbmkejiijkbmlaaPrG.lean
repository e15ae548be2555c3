/- kin: sorting what is near; contracts of pairs.Near, kin.near, kin.first, kin.Top. -/
import Derived.Test.YtbmkejiijkbmlaaPrF
namespace Go.Proofs.Ytbmkejiijkbmlaa
open Go.ChangeShapes Go.WideShapes Go.ChangeAt Go.RowKit Go.Shelf Go.Lib Go.Sort Go.Proofs
set_option linter.unusedVariables false
set_option linter.unusedSimpArgs false

theorem enters_ncmp : ∀ args w, (callFunc 44 args).run Try.prog w = .ok (.enter 44 args) w := by
  intro args w; kernel_rfl

theorem nodup_of_mapK {α β : Type} (f : α → β) {l : List α} (h : (l.map f).Nodup) : l.Nodup := (List.pairwise_map.1 h).imp (fun h e => h (congrArg f e))
theorem attach_okK {rs : List NearV} (hok : ∀ r ∈ rs, NearOk r) : ∀ (l : List NearV), (∀ r ∈ l, r ∈ rs) → ∃ m : List { r : NearV // NearOk r ∧ r ∈ rs }, m.map (·.1) = l
  | [], _ => ⟨[], rfl⟩
  | a :: l, h => by
    obtain ⟨m, rfl⟩ := attach_okK hok l (fun s hs => h s (by simp [hs]))
    exact ⟨⟨a, hok a (h a (by simp)), h a (by simp)⟩ :: m, rfl⟩
theorem item_inj {rs : List NearV} (hn : (rs.map (·.item)).Nodup) {x y : NearV} (hx : x ∈ rs) (hy : y ∈ rs) (e : x.item = y.item) : x = y := by
  obtain ⟨i, hi, rfl⟩ := List.getElem_of_mem hx
  obtain ⟨j, hj, rfl⟩ := List.getElem_of_mem hy
  have := (List.getElem_inj (i := i) (j := j) (h₀ := by simpa using hi) (h₁ := by simpa using hj) hn).1 (by simpa using e)
  subst this
  rfl

/-- slices.SortFunc of what is near. -/
theorem nsort_any (base : Nat) (A : Option Addr) (cap : Nat) (rs : List NearV) (w : World) (hok : ∀ r ∈ rs, NearOk r) (hnd : (rs.map (·.item)).Nodup) (hown : w.ownsRow base 45 3 (.slice A rs.length cap) rs.length (rs.flatMap nearEnc)) (hsz : (rs.length : Int) ≤ 1048576) :
    Calls Try.prog 43 #[.slice A rs.length cap, .func (.func 44) #[] #[]] w fun r w' => r = .returned (.tuple #[]) ∧ ∃ ms : List NearV, rs.Perm ms ∧ ms.Pairwise (fun x y => nearLt x y = true) ∧
      w'.ownsRow base 45 3 (.slice A rs.length cap) rs.length (ms.flatMap nearEnc) ∧ Keeps (fun j => (Value.slice A rs.length cap).ownBlock = some j) w w' := by
  by_cases h0 : rs = []
  · subst h0
    refine (AnyF.slices_SortFunc_none (P := Try.prog) { Try.sortN with } A cap (.func (.func 44) #[] #[]) w).mono ?_
    rintro r w' ⟨rfl, rfl⟩
    exact ⟨rfl, [], List.Perm.refl _, List.Pairwise.nil, hown, Keeps.refl _ _⟩
  obtain ⟨L, hL⟩ := attach_okK hok rs (fun _ h => h)
  obtain ⟨r0, hr0⟩ := List.exists_mem_of_ne_nil rs h0
  letI : Inhabited { r : NearV // NearOk r ∧ r ∈ rs } := ⟨⟨r0, hok r0 hr0, hr0⟩⟩
  let cf : { r : NearV // NearOk r ∧ r ∈ rs } → { r : NearV // NearOk r ∧ r ∈ rs } → Int := fun x y => nearCmp x.1 y.1
  have irr : ∀ x, ltOf cf x x = false := fun x => nearLt_irr _
  have tr : ∀ x y z, ltOf cf x y = true → ltOf cf y z = true → ltOf cf x z = true := fun x y z h1 h2 => nearLt_tr x.2.1.2.2.1 y.2.1.2.2.1 z.2.1.2.2.1 h1 h2
  have tot : ∀ x y, ltOf cf x y = false → ltOf cf y x = false → x = y := fun x y h1 h2 => Subtype.ext (item_inj hnd x.2.2 y.2.2 (nearLt_item h1 h2))
  have hLn : L.Nodup := nodup_of_mapK (·.1) (by rw [hL]; exact nodup_of_mapK (·.item) hnd)
  obtain ⟨M, hM, hMs⟩ := sort_ex (lt := ltOf cf) irr tr tot hLn
  have hlen : L.length = rs.length := by have := congrArg List.length hL; simpa using this
  have hfl : ∀ m : List { r : NearV // NearOk r ∧ r ∈ rs }, m.flatMap (fun x => nearEnc x.1) = (m.map (·.1)).flatMap nearEnc := fun m => by rw [List.flatMap_map]
  have q := sortK (P := Try.prog) Try.sortN 3 (fun w => by kernel_rfl) (fun w => by kernel_rfl) (fun x : { r : NearV // NearOk r ∧ r ∈ rs } => nearEnc x.1) (fun _ => rfl) (fun x v hv => by
      simp [nearEnc] at hv
      rcases hv with rfl | rfl | rfl <;> rfl) cf (swo_of irr tr tot) tot 44 #[] enters_ncmp base 45 A rs.length cap L hlen w (by rw [hfl, hL]; exact hown)
      (fun W x y _ => ncmp_any x.1 y.1 x.2.1 y.2.1 W) (by omega)
  refine Calls.mono q ?_
  rintro r w' ⟨rfl, ho, hk⟩
  rw [mergeSort_is irr tr tot hM hMs, hfl] at ho
  refine ⟨rfl, M.map (·.1), ?_, ?_, ho, hk⟩
  · have h := hM.map (fun x : { r : NearV // NearOk r ∧ r ∈ rs } => x.1)
    rw [hL] at h
    exact h
  · rw [List.pairwise_map]; exact hMs

/-- The keys of a row of counts, in order; nothing at a nil map. -/
def KeysK (L : List (List ByteArray)) (a : ByteArray) (ks : List ByteArray) : Prop := ks.Pairwise (fun x y => sLt x y = true) ∧ ∀ k, k ∈ ks ↔ 0 < pairF L a k
theorem KeysK.len {L : List (List ByteArray)} {a : ByteArray} {ks : List ByteArray} (h : KeysK L a ks) : ks.length ≤ L.flatten.length := by
  refine nodup_len (h.1.imp (fun {x y} h e => by subst e; rw [sLt_irrefl] at h; cases h)) (fun k hk => ?_)
  have := (h.2 k).1 hk
  unfold pairF at this
  split at this
  · omega
  · unfold cnt2 at this
    have h2 : 0 < L.countP (fun s => decide (a ∈ s ∧ k ∈ s)) := by omega
    obtain ⟨s, hs, h3⟩ := List.countP_pos_iff.1 h2
    exact List.mem_flatten.2 ⟨s, hs, (by simpa using h3 : a ∈ s ∧ k ∈ s).2⟩

theorem enters_keysN : ∀ args w, (callFunc (Try.keysN_ren.f 10) args).run Try.prog w = .ok (.enter (Try.keysN_ren.f 10) args) w := by
  intro args w; kernel_rfl

/-- slices.Sorted of a map's keys; of a nil map's. -/
theorem sortedKeys_any (Bm b : Nat) (S : CntL) (w : World) (hm : w.cell? ⟨Bm, 0, none⟩ = some (.map (some b))) (hBm : Bm < w.heap.size) (hS : MapIs w strKf intVf strOk b S) (hN : (S.length : Int) ≤ 1000000) :
    Calls Try.prog 30 #[.func (.func 65) #[] #[.pointer (some ⟨Bm, 0, none⟩)]] w fun e w' => ∃ A' c' m, e = .returned (.slice A' (List.length m) c') ∧ m.Perm (S.map (·.1)) ∧ m.Pairwise (fun x y => sLt y x = false) ∧ w'.ownsRow w.heap.size 9 1 (.slice A' m.length c') m.length (m.map Value.string) ∧ Below w.heap.size w w' := by
  have H := Lib.hid (collectKeys_any (P := Try.prog) (ρ := Try.keysN_ren) { Try.keysN with } Try.collS enters_keysN Bm b S w hBm hm hS hN)
  clear hm hS
  go_enter Try.func30, Try.ntmps30
  go_wp2_with fail
  refine Calls.mono H.out ?_
  rintro e w1 ⟨A', c', xs, rfl, hpm, h1, h2⟩
  have hxl : (xs.length : Int) ≤ 1000000 := by have := hpm.length_eq; simp at this; omega
  have q := sortStrD (P := Try.prog) Try.sortStrs w.heap.size 9 A' c' xs w1 h1 (by omega)
  have hbase := fun j (hj : (Value.slice A' xs.length c').ownBlock = some j) => (h1.lt j hj).1
  have Q := Lib.hid q
  have HB := Lib.hid hbase
  have HPM := Lib.hid hpm
  clear q h1 hbase hpm
  go_wp2_with fail
  refine Q.out.mono ?_
  rintro e w2 ⟨rfl, m, hp, hs, ho, hk⟩
  have hb := h2.trans (hk.toBelow h2.size (fun j hj => HB.out j hj))
  have HO := Lib.hid ho
  have HS := Lib.hid hs
  have HP := Lib.hid hp
  clear ho hs hp hk
  go_wp2
  go_ret
  exact ⟨A', c', m, by rw [HP.out.length_eq]; rfl, HP.out.symm.trans HPM.out, HS.out, by rw [← HP.out.length_eq]; exact HO.out, hb⟩
theorem sortedNil_any (Bm : Nat) (w : World) (hm : w.cell? ⟨Bm, 0, none⟩ = some (.map none)) (hBm : Bm < w.heap.size) :
    Calls Try.prog 30 #[.func (.func 65) #[] #[.pointer (some ⟨Bm, 0, none⟩)]] w fun e w' => ∃ A' c', e = .returned (.slice A' 0 c') ∧ Below w.heap.size w w' := by
  have hseq := AnyZ.keys_gives_nil (P := Try.prog) (ρ := Try.keysN_ren) { Try.keysN with } Fence.wide (3 - 1 - 1) trivial rfl Bm w hBm hm
  have H := Lib.hid (callsIn_wide.1 (AnyZ.collect_in (P := Try.prog) (ρ := Try.collS_ren) Try.collS Fence.wide 3 trivial trivial rfl (Nat.le_refl _) (Try.keysN_ren.f 10) #[.pointer (some ⟨Bm, 0, none⟩)] trivial enters_keysN _ 0 (by unfold maxLen; omega) (by omega) w hseq))
  clear hm hseq
  go_enter Try.func30, Try.ntmps30
  go_wp2_with fail
  refine Calls.mono H.out ?_
  rintro e w1 ⟨v, ss, rfl, rfl, hown, hn, hb⟩
  have hv := hn.2 rfl
  subst hv
  have q := (Any.slices_Sort_string_none (P := Try.prog) (ρ := Try.sortStrs_ren) Try.sortStrs none 0 w1)
  have Q := Lib.hid q
  clear q hown hn
  go_wp2_with fail
  refine Calls.mono Q.out ?_
  rintro e w2 ⟨rfl, rfl⟩
  go_wp2
  go_ret
  exact ⟨_, _, rfl, hb⟩

set_option maxHeartbeats 2000000 in
theorem pnear_any (pb : Nat) (F : Nat → Prop) (L : List (List ByteArray)) (a : ByteArray) (w : World) (h : PRd w pb F L) (hok : a.size ≤ maxLen) (hL : (L.flatten.length : Int) ≤ 100000) :
    Calls Try.prog 40 #[.pointer (some ⟨pb, 0, none⟩), .string a] w fun e w' => ∃ A c ks, e = .returned (.slice A (List.length ks) c) ∧ KeysK L a ks ∧ StrsAt w' w'.heap.size A ks ∧ (∀ k ∈ ks, k.size ≤ maxLen) ∧ Below w.heap.size w w' := by
  obtain ⟨tb, sh, G, hp, ⟨sb, cb, S, C, R, hD, hI, rfl⟩, rfl⟩ := h
  obtain ⟨c1, c2⟩ := hp.cells
  obtain ⟨d1, d2⟩ := hD.cells
  have hlo := look_twos hD.twos hok
  cases hr : mget C a with
  | none =>
    rw [hr] at hlo
    have hz : ∀ b, pairF L a b = 0 := fun b => by
      have e2 := hI.two a b
      unfold pairN at e2
      rw [hr] at e2
      simpa using e2.symm
    have hk : KeysK L a [] := ⟨List.Pairwise.nil, fun k => by rw [hz]; simp⟩
    have q1 := mapsKeys_any (P := Try.prog) Try.keysN none w
    have q2 := sortedNil_any w.heap.size (w.alloc (.cells #[.map none] 59)) (by simp) (by simp)
    have Q1 := Lib.hid q1
    have Q2 := Lib.hid q2
    clear q1 q2 hp hD hI hz
    go_enter Try.func40, Try.ntmps40
    go_wp2_with fail
    refine Calls.mono Q1.out ?_
    rintro e w1 ⟨rfl, rfl⟩
    go_wp2_with fail
    refine Calls.mono Q2.out ?_
    rintro e w2 ⟨A', c', rfl, hb2⟩
    go_wp2
    go_ret
    exact ⟨A', c', [], rfl, hk, StrsAt.nil _ _ _, by simp, ((Below.refl _ w).alloc (Nat.le_refl _) _).trans (hb2.mono (by simp))⟩
  | some r =>
    rw [hr] at hlo
    have hrow := hD.rows _ (mget_some_mem hr)
    have hval : ∀ b, (mget (R r) b).getD 0 = pairF L a b := fun b => by
      have e2 := hI.two a b
      unfold pairN at e2
      rw [hr] at e2
      exact e2
    have hmem : ∀ k, k ∈ (R r).map (·.1) ↔ 0 < pairF L a k := fun k => by
      rw [← hval]
      constructor
      · intro hk
        obtain ⟨p, hp', rfl⟩ := List.mem_map.1 hk
        rw [mget_of_mem hrow.nodup (show (p.1, p.2) ∈ R r from hp')]
        exact hI.ppos _ (mget_some_mem hr) p hp'
      · intro hk
        cases hm : mget (R r) k with
        | none => rw [hm] at hk; simp at hk
        | some v => exact List.mem_map.2 ⟨_, mget_some_mem hm, rfl⟩
    have hlen : (R r).length ≤ L.flatten.length := by
      have := nodup_len (l := (R r).map (·.1)) (m := L.flatten) hrow.nodup (fun k hk => by
        have := (hmem k).1 hk
        unfold pairF at this
        split at this
        · omega
        · unfold cnt2 at this
          have h2 : 0 < L.countP (fun s => decide (a ∈ s ∧ k ∈ s)) := by omega
          obtain ⟨s, hs, h3⟩ := List.countP_pos_iff.1 h2
          exact List.mem_flatten.2 ⟨s, hs, (by simpa using h3 : a ∈ s ∧ k ∈ s).2⟩)
      simpa using this
    have hks : ∀ k, k ∈ (R r).map (·.1) → k.size ≤ maxLen := fun k hk => by
      obtain ⟨p, hp', rfl⟩ := List.mem_map.1 hk
      exact hrow.ok p hp'
    have hnd := hrow.nodup
    have q1 := mapsKeys_any (P := Try.prog) Try.keysN (some r) w
    have q2 := sortedKeys_any w.heap.size r (R r) (w.alloc (.cells #[.map (some r)] 59)) (by simp) (by simp) (hrow.alloc _) (by omega)
    have Q1 := Lib.hid q1
    have Q2 := Lib.hid q2
    have HM := Lib.hid hmem
    have HKS := Lib.hid hks
    have HND := Lib.hid hnd
    clear q1 q2 hp hD hI hval hmem hks hnd hrow
    go_enter Try.func40, Try.ntmps40
    go_wp2_with fail
    refine Calls.mono Q1.out ?_
    rintro e w1 ⟨rfl, rfl⟩
    go_wp2_with fail
    refine Calls.mono Q2.out ?_
    rintro e w2 ⟨A', c', m, rfl, hpm, hso, ho, hb2⟩
    have hmk : KeysK L a m := ⟨by
      have hn : m.Nodup := hpm.nodup_iff.2 HND.out
      refine List.Pairwise.imp ?_ (List.Pairwise.and hso hn)
      rintro x y ⟨h1, h2⟩
      cases h : sLt x y with
      | true => rfl
      | false => exact absurd (sLt_total h h1) h2, fun k => by rw [hpm.mem_iff]; exact HM.out k⟩
    have hsz : ∀ k ∈ m, k.size ≤ maxLen := fun k hk => HKS.out k (hpm.mem_iff.1 hk)
    have hst : StrsAt w2 w2.heap.size A' m := StrsAt.of_own ho hsz
    have HST := Lib.hid hst
    have HMK := Lib.hid hmk
    have HSZ := Lib.hid hsz
    clear ho hpm hso hmk hst hsz
    go_wp2
    go_ret
    exact ⟨A', c', m, rfl, HMK.out, HST.out, HSZ.out, ((Below.refl _ w).alloc (Nat.le_refl _) _).trans (hb2.mono (by simp))⟩
end Go.Proofs.Ytbmkejiijkbmlaa
