/- Sessions as arguments; contract of pairs.things: each thing of a session once, rising. -/
import Derived.Test.YtbmkejiijkbmlaaPrC
import Derived.Test.YtbmkejiijkbmlaaPrB
import Derived.Test.YtbmkejiijkbmlaaKitT
namespace Go.Proofs.Ytbmkejiijkbmlaa
open Go.ChangeShapes Go.WideShapes Go.ChangeAt Go.RowKit Go.Shelf Go.Lib Go.Sort Go.Proofs
set_option linter.unusedVariables false
set_option linter.unusedSimpArgs false

/-- A session: whose, from when to when, and the row of its things. -/
structure SessD where
  who : ByteArray
  from_ : Int
  to_ : Int
  adr : Option Addr
  cap : Nat
  l : List ByteArray
def sessCells (s : SessD) : List Value := [.string s.who, .int .i64 s.from_, .int .i64 s.to_, .slice s.adr s.l.length s.cap]
def SessOk (w : World) (B : Nat) (s : SessD) : Prop := StrsAt w B s.adr s.l ∧ s.l.length ≤ maxLen
theorem SessOk.below {w w' : World} {B : Nat} {s : SessD} (h : SessOk w B s) (hb : Below B w w') : SessOk w' B s := ⟨h.1.below hb, h.2⟩

/-- Things in order, each once. -/
def ThingsOf (l T : List ByteArray) : Prop := T.Pairwise (fun x y => sLt x y = true) ∧ ∀ x, x ∈ T ↔ x ∈ l
theorem ThingsOf.nodup {l T : List ByteArray} (h : ThingsOf l T) : T.Nodup := h.1.imp (fun {x y} h e => by subst e; rw [sLt_irrefl] at h; cases h)

theorem compact_things (l : List ByteArray) (h : l.Pairwise (fun x y => sLt y x = false)) : ThingsOf l ((compact (l.map (fun s : ByteArray => s.data.toList))).map mkS) := by
  have h1 := compact_sorted (l.map (fun s : ByteArray => s.data.toList)) (by
    rw [List.pairwise_map]
    exact h.imp (fun {x y} h => by rw [sLt_bytes] at h; exact h))
  refine ⟨?_, fun x => ?_⟩
  · rw [List.pairwise_map]
    exact h1.imp (fun {x y} h => by rw [sLt_bytes]; exact h)
  · rw [List.mem_map]
    constructor
    · rintro ⟨y, hy, rfl⟩
      obtain ⟨z, hz, rfl⟩ := List.mem_map.1 ((compact_mem _ _).1 hy)
      rw [mkS_data]
      exact hz
    · intro hx
      exact ⟨x.data.toList, (compact_mem _ _).2 (List.mem_map.2 ⟨x, hx, rfl⟩), mkS_data x⟩

theorem compactStr {P : Program} {ρ : Ren} (L : Lays.n194 P ρ) (base : Nat) (e : TypeId) (A : Option Addr) (cap : Nat) (l : List ByteArray) (w : World) (hown : w.ownsRow base e 1 (.slice A l.length cap) l.length (l.map Value.string)) (hsz : (l.length : Int) ≤ 1000000) (hok : ∀ s ∈ l, s.size ≤ maxLen)
    (T : List ByteArray) (hT : T = (compact (l.map (fun s : ByteArray => s.data.toList))).map mkS) :
    Calls P (ρ.f 194) #[.slice A l.length cap] w fun r w' => r = .returned (.slice A T.length cap) ∧ StrsAt w' w'.heap.size A T ∧ Keeps (fun j => (Value.slice A l.length cap).ownBlock = some j) w w' := by
  rcases l with _ | ⟨a, l'⟩
  · refine (Any.slices_Compact_string_empty (P := P) (ρ := ρ) L A cap w).mono ?_
    rintro r w' ⟨rfl, rfl⟩
    have : T = [] := by rw [hT]; rfl
    subst this
    exact ⟨rfl, StrsAt.nil _ _ _, Keeps.refl _ _⟩
  · generalize hll : a :: l' = l at *
    obtain ⟨g, cap', hv, hb, hlt⟩ := hown.form (by rw [← hll]; simp)
    injection hv with e1 e2 e3
    subst e1 e3
    obtain ⟨hH, hg⟩ := own_holds hown
    have hHS : Holds encStr w g 0 (l.map (fun s : ByteArray => s.data.toList)).toArray := fun j hj => by
      have := hH j (by simpa using hj)
      have hj' : j < l.length := by simpa using hj
      simpa [hj', encStr] using this
    have hnc : l.length ≤ cap := by
      rcases hown.2 with ⟨h0, _⟩ | ⟨g', cap', cur, hv, _, _, hnc, _⟩
      · cases h0
      · injection hv with _ _ e; omega
    have q := Any.slices_Compact_string (P := P) (ρ := ρ) L g 0 cap (l.map (fun s : ByteArray => s.data.toList)) w hHS (by rw [List.length_map]; omega) (by rw [List.length_map]; exact hnc)
    rw [List.length_map] at q
    refine q.mono ?_
    rintro r w' ⟨rfl, q', rfl⟩
    have hle := Lib.compact_length_le (l.map (fun s : ByteArray => s.data.toList))
    rw [List.length_map] at hle
    have hTl : T.length = (compact (l.map (fun s : ByteArray => s.data.toList))).length := by rw [hT, List.length_map]
    have hTok : ∀ s ∈ T, s.size ≤ maxLen := fun s hs => by
      rw [hT] at hs
      obtain ⟨y, hy, rfl⟩ := List.mem_map.1 hs
      obtain ⟨z, hz, rfl⟩ := List.mem_map.1 ((compact_mem _ _).1 hy)
      exact hok z hz
    have hTc : T.map Value.string = (compact (l.map (fun s : ByteArray => s.data.toList))).map encStr := by rw [hT, List.map_map]; rfl
    generalize compact (l.map (fun s : ByteArray => s.data.toList)) = cs at *
    obtain ⟨zs, hzs⟩ : ∃ zs, zs = cs ++ List.replicate (l.length - cs.length) ([] : List UInt8) := ⟨_, rfl⟩
    rw [← hzs]
    have hzl : zs.length = l.length := by rw [hzs]; simp; omega
    have pr : putRow encStr (Sort.ahead w q') g 0 zs.toArray = putRow id (Sort.ahead w q') g 0 (zs.map encStr).toArray := by
      unfold putRow
      refine mapBlock_congr _ _ _ _ (fun c _ _ _ => ?_)
      unfold putCells
      apply Array.ext_getElem?
      intro j
      simp only [Array.getElem?_mapIdx]
      congr 1
      funext x
      by_cases hj : j < zs.length
      · simp [hj]
      · simp [hj]
    obtain ⟨o1, o2⟩ := own_put hown (ys := zs.map encStr) (by simp [hzl]) q' #[]
    rw [grow_empty, ← pr] at o1 o2
    have hr := Reads.of_own o1
    refine ⟨by rw [hTl], ⟨⟨by simp, fun h0 => ?_⟩, hTok⟩, o2.mono (fun j _ hj => by subst hj; rfl)⟩
    obtain ⟨b, o, e1, hbl, hc⟩ := hr.2 (by omega)
    refine ⟨b, o, e1, hbl, fun j u hu => hc j u ?_⟩
    rw [hTc] at hu
    rw [hzs, List.map_append, List.getElem?_append_left (by have := (List.getElem?_eq_some_iff.1 hu).1; exact this)]
    exact hu

set_option maxHeartbeats 1000000 in
theorem things_any (s : SessD) (B : Nat) (w : World) (h : SessOk w B s) (hB : B ≤ w.heap.size) (hl : (s.l.length : Int) ≤ 1000000) :
    Calls Try.prog 24 #[.agg (sessCells s).toArray] w fun e w' => ∃ A c T, e = .returned (.slice A (List.length T) c) ∧ ThingsOf s.l T ∧ StrsAt w' w'.heap.size A T ∧ (∀ b o sp, A = some ⟨b, o, sp⟩ → w.heap.size ≤ b) ∧ Below w.heap.size w w' := by
  obtain ⟨who, fr, to, A, c, l⟩ := s
  obtain ⟨hs, hm⟩ := h
  simp only at hs hm hl
  obtain ⟨W1, hW1⟩ : ∃ W1, W1 = w.alloc (.cells #[.string who, .int .i64 fr, .int .i64 to, .slice A l.length c] 34) := ⟨_, rfl⟩
  have hb1 : Below w.heap.size w W1 := by rw [hW1]; exact (Below.refl _ w).alloc (Nat.le_refl _) _
  have d1 : W1.cell? ⟨w.heap.size, 3, none⟩ = some (.slice A l.length c) := by rw [hW1]; simp
  have hs1 := hs.below (hb1.mono hB)
  obtain ⟨W2, hW2⟩ : ∃ W2, W2 = W1.alloc (.cells #[.slice A l.length c] 32) := ⟨_, rfl⟩
  have hb2 : Below W1.heap.size W1 W2 := by rw [hW2]; exact (Below.refl _ W1).alloc (Nat.le_refl _) _
  have hz2 : W2.heap.size = W1.heap.size + 1 := by rw [hW2]; simp
  have d2 : W2.cell? ⟨W1.heap.size, 0, none⟩ = some (.slice A l.length c) := by rw [hW2]; simp
  have hs2 := hs1.below (hb2.mono (by have := hb1.size; omega))
  have q1 := values_any A l.length c W1
  have q2 := sortedValues_any A c B W1.heap.size l W2 d2 (by omega) hs2 (by have := hb1.size; omega) hl
  have Q1 := Lib.hid q1
  have Q2 := Lib.hid q2
  have HW2 := Lib.hid hW2
  have HOK := Lib.hid hs.2
  clear q1 q2 hW2 hs hs1 hs2 d2
  unfold sessCells
  go_enter Try.func24, Try.ntmps24
  go_wp2_with fail
  rw [← hW1]
  clear hW1
  go_wp2_with fail
  refine Q1.out.mono ?_
  rintro e w3 ⟨rfl, rfl⟩
  rw [← HW2.out]
  go_wp2_with fail
  refine Q2.out.mono ?_
  rintro e w4 ⟨A', c', m, rfl, hp, hso, ho, hb4⟩
  have hmok : ∀ s ∈ m, s.size ≤ maxLen := fun s hs => HOK.out s (hp.mem_iff.2 hs)
  have hth := compact_things m hso
  obtain ⟨T, hT⟩ : ∃ T, T = (compact (m.map (fun s : ByteArray => s.data.toList))).map mkS := ⟨_, rfl⟩
  rw [← hT] at hth
  have q3 := compactStr (P := Try.prog) Try.compS W2.heap.size 9 A' c' m w4 ho (by have := hp.length_eq; omega) hmok T hT
  have hbase := fun j (hj : (Value.slice A' m.length c').ownBlock = some j) => (ho.lt j hj).1
  have Q3 := Lib.hid q3
  have HTH : Hid (ThingsOf l T) := Lib.hid ⟨hth.1, fun x => (hth.2 x).trans hp.mem_iff.symm⟩
  have HBA := Lib.hid hbase
  have hb5 : Below w.heap.size w w4 := (hb1.trans (hb2.mono hb1.size)).trans (hb4.mono (by have := hb1.size; have := hb2.size; omega))
  have HB5 := Lib.hid hb5
  have HLT : Hid (∀ j, (Value.slice A' m.length c').ownBlock = some j → w.heap.size ≤ j) := Lib.hid (fun j hj => by have := HBA.out j hj; have := hb1.size; omega)
  clear q3 hth hbase ho hso hp hmok hb5 hT hb4 Q1 Q2
  go_wp2_with fail
  refine Q3.out.mono ?_
  rintro e w5 ⟨rfl, hs5, hk5⟩
  have HS5 := Lib.hid hs5
  have hb6 : Below w.heap.size w w5 := HB5.out.trans (hk5.toBelow HB5.out.size (fun j hj => HLT.out j hj))
  clear hs5 hk5
  go_wp2
  go_ret
  refine ⟨A', c', T, rfl, HTH.out, HS5.out, ?_, hb6⟩
  rintro b o sp rfl
  exact HLT.out b (by simp [Value.ownBlock])
end Go.Proofs.Ytbmkejiijkbmlaa
