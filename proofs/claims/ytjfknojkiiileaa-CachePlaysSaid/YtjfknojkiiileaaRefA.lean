/- The reference's rows of entries (ciceroneref29): Size, At, Without, Put. -/
import Derived.Test.YtjfknojkiiileaaCacG
import Derived.Test.YtjfknojkiiileaaKitC
namespace Go.Proofs.Ytjfknojkiiileaa
open Go.ChangeShapes Go.WideShapes Go.ChangeAt Go.RowKit
set_option linter.unusedVariables false
set_option linter.unusedSimpArgs false

/-- An entry of the reference's. -/
structure REnt where
  key : ByteArray
  val : ByteArray
  deps : SlD ByteArray
def rentCells (e : REnt) : List Value := [.string e.key, .string e.val, .slice e.deps.adr e.deps.l.length e.deps.cap]
theorem rent_info : (Try.prog.info? 41).map (fun i => (i.zero, i.size, i.bytes)) = some (some (.agg #[.string ByteArray.empty, .string ByteArray.empty, .slice none 0 0]), 3, 56) := by kernel_rfl
theorem rent_one1 (e : REnt) : ∀ u ∈ ([.string e.key, .string e.val, .slice e.deps.adr e.deps.l.length e.deps.cap] : List Value), u.oneCell' = true := by
  intro u hu
  simp at hu
  rcases hu with rfl | rfl | rfl <;> rfl
theorem rent_one (l : List REnt) : ∀ u ∈ l.flatMap rentCells, u.oneCell' = true := by
  intro u hu
  obtain ⟨e, _, he⟩ := List.mem_flatMap.1 hu
  exact rent_one1 e u he
theorem flat_take {α : Type} {e : α → List Value} {k : Nat} (he : ∀ a, (e a).length = k) : ∀ (l : List α) (m : Nat), (l.flatMap e).take (m * k) = (l.take m).flatMap e
  | [], m => by simp
  | a :: l, 0 => by simp
  | a :: l, m + 1 => by
    rw [List.flatMap_cons, List.take_succ_cons, List.flatMap_cons, Nat.succ_mul, Nat.add_comm, ← flat_take he l m]
    rw [show k + m * k = (e a).length + m * k by rw [he], List.take_append]
    simp [he]
    rw [List.take_of_length_le (by rw [he]; omega)]
theorem flat_drop {α : Type} {e : α → List Value} {k : Nat} (he : ∀ a, (e a).length = k) : ∀ (l : List α) (m : Nat), (l.flatMap e).drop (m * k) = (l.drop m).flatMap e
  | [], m => by simp
  | a :: l, 0 => by simp
  | a :: l, m + 1 => by
    rw [List.flatMap_cons, List.drop_succ_cons, Nat.succ_mul, Nat.add_comm, ← flat_drop he l m]
    rw [show k + m * k = (e a).length + m * k by rw [he], List.drop_append]
    simp [he]

/-- A row of entries in memory: the slice's value, what it holds. -/
def EntsAt (w : World) (A : Option Addr) (c : Nat) (l : List REnt) : Prop := Reads w w.heap.size 3 A l.length (l.flatMap rentCells) ∧ l.length ≤ c ∧ (A = none → c = 0) ∧ ∀ b o sp, A = some ⟨b, o, sp⟩ → sp = none
theorem EntsAt.one {w : World} {A : Option Addr} {c : Nat} {l : List REnt} (h : EntsAt w A c l) {k : Nat} (hk : k < l.length) :
    ∃ b o, A = some ⟨b, o, none⟩ ∧ b < w.heap.size ∧ w.cell? ⟨b, o + k * 3, none⟩ = some (.string l[k].key) ∧ w.cell? ⟨b, o + k * 3 + 1, none⟩ = some (.string l[k].val) ∧ w.cell? ⟨b, o + k * 3 + 1 + 1, none⟩ = some (.slice l[k].deps.adr l[k].deps.l.length l[k].deps.cap) := by
  obtain ⟨b, o, e, hb, hc⟩ := h.1.2 (by omega)
  have f := fun j (hj : j < 3) => flat_getE (e := rentCells) (k := 3) (fun _ => rfl) l k j hk hj
  refine ⟨b, o, e, hb, ?_, ?_, ?_⟩
  · have := hc (k * 3 + 0) _ (by rw [f 0 (by omega)]; rfl)
    simpa using this
  · have := hc (k * 3 + 1) _ (by rw [f 1 (by omega)]; rfl)
    simpa [Nat.add_assoc] using this
  · have := hc (k * 3 + 2) _ (by rw [f 2 (by omega)]; rfl)
    simpa [Nat.add_assoc] using this
theorem EntsAt.below {w w' : World} {A : Option Addr} {c : Nat} {l : List REnt} (h : EntsAt w A c l) (hb : Below w.heap.size w w') : EntsAt w' A c l := ⟨(h.1.below hb).more hb.size, h.2⟩
theorem EntsAt.of_own {w : World} {base : Nat} {A : Option Addr} {c : Nat} {l : List REnt} (h : w.ownsRow base 41 3 (.slice A l.length c) l.length (l.flatMap rentCells)) : EntsAt w A c l := by
  refine ⟨Reads.of_own h, ?_, ?_, ?_⟩
  · rcases h.2 with ⟨h0, h1⟩ | ⟨g, cap, cur, hv, _, _, hle, _⟩
    · injection h0 with e1 e2 e3; omega
    · injection hv with e1 e2 e3; omega
  · rcases h.2 with ⟨h0, h1⟩ | ⟨g, cap, cur, hv, _, _, hle, _⟩
    · injection h0 with e1 e2 e3; intro _; exact e3
    · injection hv with e1 e2 e3; intro e; rw [e1] at e; cases e
  · rcases h.2 with ⟨h0, h1⟩ | ⟨g, cap, cur, hv, _, _, hle, _⟩
    · injection h0 with e1 e2 e3; subst e1; intro b o sp e; cases e
    · injection hv with e1 e2 e3; subst e1; intro b o sp e; injection e with e; injection e with _ _ e; exact e.symm

theorem rsize_any (n : Int) (w : World) : Calls Try.prog 15 #[.int .i64 n] w fun e w' => e = .returned (.int .i64 (sizeOf' n)) ∧ w = w' := by
  by_cases h1 : n < 0
  · have e : sizeOf' n = 0 := by unfold sizeOf'; omega
    rw [e]; clear e
    go_enter Try.func15, Try.ntmps15
    go_wp2
    go_ret
    exact ⟨rfl, rfl⟩
  · by_cases h2 : 4096 < n
    · have e : sizeOf' n = 4096 := by unfold sizeOf'; omega
      rw [e]; clear e
      go_enter Try.func15, Try.ntmps15
      go_wp2
      go_ret
      exact ⟨rfl, rfl⟩
    · have e : sizeOf' n = n := by unfold sizeOf'; omega
      rw [e]; clear e
      go_enter Try.func15, Try.ntmps15
      go_wp2
      go_ret
      exact ⟨rfl, rfl⟩

/-- The place of a key. -/
def IsAt (l : List REnt) (key : ByteArray) (i : Int) : Prop := (i = -1 ∧ ∀ e ∈ l, e.key ≠ key) ∨ ∃ (k : Nat) (hk : k < l.length), i = k ∧ l[k].key = key ∧ ∀ j (hj : j < l.length), j < k → l[j].key ≠ key
def AtPost (w : World) (l : List REnt) (key : ByteArray) (e : Ending) (w' : World) : Prop := ∃ i : Int, e = .returned (.int .i64 i) ∧ IsAt l key i ∧ w = w'
set_option maxHeartbeats 1000000 in
theorem rat29_any {w : World} {A : Option Addr} {c : Nat} {l : List REnt} (h : EntsAt w A c l) (hl : (l.length : Int) ≤ 1000000) (key : ByteArray) :
    Calls Try.prog 16 #[.slice A l.length c, .string key] w (AtPost w l key) := by
  go_enter Try.func16, Try.ntmps16
  go_wp2_with fail
  go_loopg [5] l.length (fun rest i wr => ∃ k : Nat, i = .int .i64 k ∧ Hid (k + rest = l.length) ∧ Hid (∀ j (hj : j < l.length), j < k → l[j].key ≠ key) ∧ w = wr)
  case atStart => exact ⟨0, rfl, Lib.hid (by simp), Lib.hid (by intro j _ h; omega), rfl⟩
  case round =>
    obtain ⟨k, rfl, HK, HA, rfl⟩ := hrel
    have hkl' : (k : Int) ≤ (l.length : Int) := by have := HK.out; omega
    by_cases hk : (k : Int) < (l.length : Int)
    · have hkl : k < l.length := by omega
      obtain ⟨b, o, rfl, hbl, c0, c1, c2⟩ := h.one hkl
      by_cases he : l[k].key = key
      · have HP : Hid (AtPost w l key (.returned (.int .i64 k)) w) := Lib.hid ⟨k, rfl, .inr ⟨k, hkl, rfl, he, HA.out⟩, rfl⟩
        have heq : (l[k].key.toList == key.toList) = true := by rw [he]; simp
        clear he
        generalize l[k] = x at *
        go_wp2
        go_ret
        exact HP.out
      · have HE := Lib.hid he
        have heq : (l[k].key.toList == key.toList) = false := by rw [str_beq]; simp [he]
        have HA' : Hid (∀ j (hj : j < l.length), j < k + 1 → l[j].key ≠ key) := Lib.hid (fun j hj hjk => by
          by_cases e : j = k
          · subst e; exact HE.out
          · exact HA.out j hj (by omega))
        clear he
        generalize l[k] = x at *
        go_wp2
        go_roundg (gk - 1)
        case measure => have := HK.out; omega
        case rel => exact ⟨k + 1, by go_num, Lib.hid (by have := HK.out; omega), HA', rfl⟩
    · have HP : Hid (AtPost w l key (.returned (.int .i64 (-1))) w) := Lib.hid ⟨-1, rfl, .inl ⟨rfl, fun e he => by
        obtain ⟨j, hj, rfl⟩ := List.getElem_of_mem he
        exact HA.out j hj (by omega)⟩, rfl⟩
      go_wp2
      go_ret
      exact HP.out

/-- A new row of entries is handed back. -/
def RowE (w : World) (l : List REnt) (e : Ending) (w' : World) : Prop := ∃ A c, e = .returned (.slice A l.length c) ∧ EntsAt w' A c l ∧ (∀ b o sp, A = some ⟨b, o, sp⟩ → w.heap.size ≤ b ∧ b < w'.heap.size) ∧ Below w.heap.size w w'
theorem own_new {w : World} {base : Nat} {e : TypeId} {size n c : Nat} {A : Option Addr} {xs : List Value} (h : w.ownsRow base e size (.slice A n c) n xs) : ∀ b o sp, A = some ⟨b, o, sp⟩ → base ≤ b ∧ b < w.heap.size := by
  intro b o sp e
  rcases h.2 with ⟨h0, _⟩ | ⟨g, cap, cur, hv, hb, hg, _⟩
  · injection h0 with h0; rw [h0] at e; cases e
  · injection hv with hv; rw [hv] at e; injection e with e; injection e with e1; subst e1; exact ⟨hb, (Array.getElem?_eq_some_iff.1 hg).1⟩

set_option maxRecDepth 20000 in
set_option maxHeartbeats 2000000 in
theorem rwithout_any {w : World} {b o c : Nat} {l : List REnt} (h : EntsAt w (some ⟨b, o, none⟩) c l) (hl : (l.length : Int) ≤ 1000000) (i : Nat) (hi : i < l.length) :
    Calls Try.prog 28 #[.slice (some ⟨b, o, none⟩) l.length c, .int .i64 i] w (RowE w (l.take i ++ l.drop (i + 1))) := by
  have hcap : (l.length : Int) ≤ (c : Int) := by have := h.2.1; omega
  have hic : (i : Int) < (l.length : Int) := by omega
  have hrO : Reads w w.heap.size 3 (some ⟨b, o, none⟩) i ((l.take i).flatMap rentCells) := by
    have := h.1.take (m := i) (by omega)
    rw [flat_take (e := rentCells) (k := 3) (fun _ => rfl)] at this
    exact this
  have hlen1 : (l.drop (i + 1)).length = l.length - (i + 1) := by simp
  have hfin : ∀ (A5 : Option Addr) (c5 : Nat) (w5 : World), w5.ownsRow w.heap.size 41 3 (.slice A5 (l.length - 1) c5) (l.length - 1) ((l.take i).flatMap rentCells ++ (l.drop (i + 1)).flatMap rentCells) → Below w.heap.size w w5 → RowE w (l.take i ++ l.drop (i + 1)) (.returned (.slice A5 (l.length - 1) c5)) w5 := by
    intro A5 c5 w5 ho hb
    have hlen : (l.take i ++ l.drop (i + 1)).length = l.length - 1 := by simp; omega
    refine ⟨A5, c5, by rw [hlen], ?_, own_new ho, hb⟩
    refine EntsAt.of_own (base := w.heap.size) ?_
    rw [hlen, List.flatMap_append]
    exact ho
  have HFIN := Lib.hid hfin
  clear hfin
  have hi1 : i ≤ c := by omega
  have hi2 : (i : Int) + 1 ≤ (l.length : Int) := by omega
  have hw1 : IntKind.i64.wrap ((i : Int) + 1) = (i : Int) + 1 := IntWalk.i64_in _ (by omega)
  have hw2 : ((i : Int) + 1).toNat = i + 1 := by omega
  have hw3 : 0 ≤ (i : Int) + 1 := by omega
  by_cases hq : c = i + 1
  · subst hq
    have hR : Reads w w.heap.size 3 (some ⟨b, o, none⟩) (l.length - (i + 1)) ((l.drop (i + 1)).flatMap rentCells) := by
      have h1 : l.drop (i + 1) = [] := List.drop_eq_nil_of_le (by omega)
      have h2 : l.length - (i + 1) = 0 := by omega
      rw [h1, h2]
      exact Reads.none_
    have hx : (i : Int) ≤ (i : Int) + 1 := by omega
    go_enter Try.func28, Try.ntmps28
    go_wp2_with fail
    refine heldStart 10 (S := fun W => True) (by kernel_rfl) ?_ (fun hHeld => ?_)
    · trivial
    refine heldTake 1 (v := ?_) (by simp only [List.getElem?_toArray, List.getElem?_cons_succ, List.getElem?_cons_zero]; rfl) (by kernel_rfl) (by intro _ _ _ h; exact h) (by rfl) (by assumption) ?_ ?_
    rotate_left
    · intro W hSw; (try dsimp only at hSw); go_simp; try with_reducible rfl
    simp only [Act.put, List.setIfInBounds_toArray, List.set_cons_zero, List.set_cons_succ]
    refine heldTake 2 (v := ?_) (by simp only [List.getElem?_toArray, List.getElem?_cons_succ, List.getElem?_cons_zero]; rfl) (by kernel_rfl) (by intro _ _ _ h; exact h) (by rfl) (by assumption) ?_ ?_
    rotate_left
    · intro W hSw; (try dsimp only at hSw); go_simp; try with_reducible rfl
    simp only [Act.put, List.setIfInBounds_toArray, List.set_cons_zero, List.set_cons_succ]
    refine heldTake 3 (v := ?_) (by simp only [List.getElem?_toArray, List.getElem?_cons_succ, List.getElem?_cons_zero]; rfl) (by kernel_rfl) (by intro _ _ _ h; exact h) (by rfl) (by assumption) ?_ ?_
    rotate_left
    · intro W hSw; (try dsimp only at hSw); go_simp; try with_reducible rfl
    simp only [Act.put, List.setIfInBounds_toArray, List.set_cons_zero, List.set_cons_succ]
    refine heldTake 5 (v := ?_) (by simp only [List.getElem?_toArray, List.getElem?_cons_succ, List.getElem?_cons_zero]; rfl) (by kernel_rfl) (by intro _ _ _ h; exact h) (by rfl) (by assumption) ?_ ?_
    rotate_left
    · intro W hSw; (try dsimp only at hSw); go_simp; try with_reducible rfl
    simp only [Act.put, List.setIfInBounds_toArray, List.set_cons_zero, List.set_cons_succ]
    refine heldTake 6 (v := ?_) (by simp only [List.getElem?_toArray, List.getElem?_cons_succ, List.getElem?_cons_zero]; rfl) (by kernel_rfl) (by intro _ _ _ h; exact h) (by rfl) (by assumption) ?_ ?_
    rotate_left
    · intro W hSw; (try dsimp only at hSw); go_simp; try with_reducible rfl
    simp only [Act.put, List.setIfInBounds_toArray, List.set_cons_zero, List.set_cons_succ]
    refine heldTake 7 (v := ?_) (by simp only [List.getElem?_toArray, List.getElem?_cons_succ, List.getElem?_cons_zero]; rfl) (by kernel_rfl) (by intro _ _ _ h; exact h) (by rfl) (by assumption) ?_ ?_
    rotate_left
    · intro W hSw; (try dsimp only at hSw); go_simp; try with_reducible rfl
    simp only [Act.put, List.setIfInBounds_toArray, List.set_cons_zero, List.set_cons_succ]
    refine heldTake 8 (v := ?_) (by simp only [List.getElem?_toArray, List.getElem?_cons_succ, List.getElem?_cons_zero]; rfl) (by kernel_rfl) (by intro _ _ _ h; exact h) (by rfl) (by assumption) ?_ ?_
    rotate_left
    · intro W hSw; (try dsimp only at hSw); go_simp; try with_reducible rfl
    simp only [Act.put, List.setIfInBounds_toArray, List.set_cons_zero, List.set_cons_succ]
    refine heldCall 0 (by simp only [List.getElem?_toArray, List.getElem?_cons_succ, List.getElem?_cons_zero]; rfl) (by kernel_rfl) (fun K hK => ?_)
    go_simp
    refine hK.out _ _ ?_ (fun hHeld => ?_)
    · trivial
    clear hK K
    (try simp only [Act.put, List.setIfInBounds_toArray, List.set_cons_zero, List.set_cons_succ])
    refine heldLaw 4 (by simp only [List.getElem?_toArray, List.getElem?_cons_succ, List.getElem?_cons_zero]; rfl) (by kernel_rfl) (by rfl) (fun K hK => ?_)
    refine wp_append_to _ (.tmp 5) (.tmp 8) _ rfl w.heap.size 41 (.agg #[.string ByteArray.empty, .string ByteArray.empty, .slice none 0 0]) 3 56 Try.underlying37 rent_info rfl (by omega) (some ⟨_, 0, none⟩) 0 0 [] rfl (own_empty (by simp) (heapN1 _ _)) (some ⟨b, o, none⟩) w.heap.size i (i + 1) ((l.take i).flatMap rentCells) rfl (hrO.below (((Below.refl _ w).drew).alloc (by simp) _)) (fun h => by cases h) (rent_one _) i (by omega) (by unfold maxLen; omega) (by omega) (by simp) ?_
    intro A4 c4 w4 hown4 hg4 hb4
    have hB4 : Below w.heap.size w w4 := Below.trans (((Below.refl _ w).drew).alloc (by simp) _) hb4
    simp only [List.nil_append] at hown4
    refine hK.out _ _ ?_ (fun hHeld => ?_)
    · trivial
    clear hK K
    (try simp only [Act.put, List.setIfInBounds_toArray, List.set_cons_zero, List.set_cons_succ])
    refine heldLaw 9 (by simp only [List.getElem?_toArray, List.getElem?_cons_succ, List.getElem?_cons_zero]; rfl) (by kernel_rfl) (by rfl) (fun K hK => ?_)
    refine wp_append_to _ (.tmp 9) (.tmp 13) _ rfl w.heap.size 41 (.agg #[.string ByteArray.empty, .string ByteArray.empty, .slice none 0 0]) 3 56 Try.underlying37 rent_info rfl (by omega) A4 i c4 ((l.take i).flatMap rentCells) rfl hown4 (some ⟨b, o, none⟩) w.heap.size (l.length - (i + 1)) 0 ((l.drop (i + 1)).flatMap rentCells) rfl (hR.below hB4) (fun h => by cases h) (rent_one _) (l.length - 1) (by omega) (by unfold maxLen; omega) (by omega) hB4.size ?_
    intro A5 c5 w5 hown5 hg5 hb5
    refine hK.out _ _ ?_ (fun hHeld => ?_)
    · trivial
    clear hK K
    (try simp only [Act.put, List.setIfInBounds_toArray, List.set_cons_zero, List.set_cons_succ])
    refine heldTake 10 (v := ?_) (by simp only [List.getElem?_toArray, List.getElem?_cons_succ, List.getElem?_cons_zero]; rfl) (by kernel_rfl) (by intro _ _ _ h; exact h) (by rfl) (by assumption) ?_ ?_
    rotate_left
    · intro W hSw; (try dsimp only at hSw); go_simp; try with_reducible rfl
    simp only [Act.put, List.setIfInBounds_toArray, List.set_cons_zero, List.set_cons_succ]
    refine heldDone (by kernel_rfl) ?_ _
    go_wp2
    refine bodyPost_ret (results_tmp rfl _ _ _) rfl ?_
    exact HFIN.out _ _ _ hown5 (hB4.trans hb5)
  · have hR : Reads w w.heap.size 3 (some ⟨b, o + (i + 1) * 3, none⟩) (l.length - (i + 1)) ((l.drop (i + 1)).flatMap rentCells) := by
      have := h.1.drop (m := i + 1) (c := c) (by omega) h.2.1 rfl
      rw [if_neg hq, flat_drop (e := rentCells) (k := 3) (fun _ => rfl)] at this
      exact this
    go_enter Try.func28, Try.ntmps28
    go_wp2_with fail
    refine heldStart 10 (S := fun W => True) (by kernel_rfl) ?_ (fun hHeld => ?_)
    · trivial
    refine heldTake 1 (v := ?_) (by simp only [List.getElem?_toArray, List.getElem?_cons_succ, List.getElem?_cons_zero]; rfl) (by kernel_rfl) (by intro _ _ _ h; exact h) (by rfl) (by assumption) ?_ ?_
    rotate_left
    · intro W hSw; (try dsimp only at hSw); go_simp; try with_reducible rfl
    simp only [Act.put, List.setIfInBounds_toArray, List.set_cons_zero, List.set_cons_succ]
    refine heldTake 2 (v := ?_) (by simp only [List.getElem?_toArray, List.getElem?_cons_succ, List.getElem?_cons_zero]; rfl) (by kernel_rfl) (by intro _ _ _ h; exact h) (by rfl) (by assumption) ?_ ?_
    rotate_left
    · intro W hSw; (try dsimp only at hSw); go_simp; try with_reducible rfl
    simp only [Act.put, List.setIfInBounds_toArray, List.set_cons_zero, List.set_cons_succ]
    refine heldTake 3 (v := ?_) (by simp only [List.getElem?_toArray, List.getElem?_cons_succ, List.getElem?_cons_zero]; rfl) (by kernel_rfl) (by intro _ _ _ h; exact h) (by rfl) (by assumption) ?_ ?_
    rotate_left
    · intro W hSw; (try dsimp only at hSw); go_simp; try with_reducible rfl
    simp only [Act.put, List.setIfInBounds_toArray, List.set_cons_zero, List.set_cons_succ]
    refine heldTake 5 (v := ?_) (by simp only [List.getElem?_toArray, List.getElem?_cons_succ, List.getElem?_cons_zero]; rfl) (by kernel_rfl) (by intro _ _ _ h; exact h) (by rfl) (by assumption) ?_ ?_
    rotate_left
    · intro W hSw; (try dsimp only at hSw); go_simp; try with_reducible rfl
    simp only [Act.put, List.setIfInBounds_toArray, List.set_cons_zero, List.set_cons_succ]
    refine heldTake 6 (v := ?_) (by simp only [List.getElem?_toArray, List.getElem?_cons_succ, List.getElem?_cons_zero]; rfl) (by kernel_rfl) (by intro _ _ _ h; exact h) (by rfl) (by assumption) ?_ ?_
    rotate_left
    · intro W hSw; (try dsimp only at hSw); go_simp; try with_reducible rfl
    simp only [Act.put, List.setIfInBounds_toArray, List.set_cons_zero, List.set_cons_succ]
    refine heldTake 7 (v := ?_) (by simp only [List.getElem?_toArray, List.getElem?_cons_succ, List.getElem?_cons_zero]; rfl) (by kernel_rfl) (by intro _ _ _ h; exact h) (by rfl) (by assumption) ?_ ?_
    rotate_left
    · intro W hSw; (try dsimp only at hSw); go_simp; try with_reducible rfl
    simp only [Act.put, List.setIfInBounds_toArray, List.set_cons_zero, List.set_cons_succ]
    refine heldTake 8 (v := ?_) (by simp only [List.getElem?_toArray, List.getElem?_cons_succ, List.getElem?_cons_zero]; rfl) (by kernel_rfl) (by intro _ _ _ h; exact h) (by rfl) (by assumption) ?_ ?_
    rotate_left
    · intro W hSw; (try dsimp only at hSw); go_simp; try with_reducible rfl
    simp only [Act.put, List.setIfInBounds_toArray, List.set_cons_zero, List.set_cons_succ]
    refine heldCall 0 (by simp only [List.getElem?_toArray, List.getElem?_cons_succ, List.getElem?_cons_zero]; rfl) (by kernel_rfl) (fun K hK => ?_)
    go_simp
    refine hK.out _ _ ?_ (fun hHeld => ?_)
    · trivial
    clear hK K
    (try simp only [Act.put, List.setIfInBounds_toArray, List.set_cons_zero, List.set_cons_succ])
    refine heldLaw 4 (by simp only [List.getElem?_toArray, List.getElem?_cons_succ, List.getElem?_cons_zero]; rfl) (by kernel_rfl) (by rfl) (fun K hK => ?_)
    refine wp_append_to _ (.tmp 5) (.tmp 8) _ rfl w.heap.size 41 (.agg #[.string ByteArray.empty, .string ByteArray.empty, .slice none 0 0]) 3 56 Try.underlying37 rent_info rfl (by omega) (some ⟨_, 0, none⟩) 0 0 [] rfl (own_empty (by simp) (heapN1 _ _)) (some ⟨b, o, none⟩) w.heap.size i c ((l.take i).flatMap rentCells) rfl (hrO.below (((Below.refl _ w).drew).alloc (by simp) _)) (fun h => by cases h) (rent_one _) i (by omega) (by unfold maxLen; omega) (by omega) (by simp) ?_
    intro A4 c4 w4 hown4 hg4 hb4
    have hB4 : Below w.heap.size w w4 := Below.trans (((Below.refl _ w).drew).alloc (by simp) _) hb4
    simp only [List.nil_append] at hown4
    refine hK.out _ _ ?_ (fun hHeld => ?_)
    · trivial
    clear hK K
    (try simp only [Act.put, List.setIfInBounds_toArray, List.set_cons_zero, List.set_cons_succ])
    refine heldLaw 9 (by simp only [List.getElem?_toArray, List.getElem?_cons_succ, List.getElem?_cons_zero]; rfl) (by kernel_rfl) (by rfl) (fun K hK => ?_)
    refine wp_append_to _ (.tmp 9) (.tmp 13) _ rfl w.heap.size 41 (.agg #[.string ByteArray.empty, .string ByteArray.empty, .slice none 0 0]) 3 56 Try.underlying37 rent_info rfl (by omega) A4 i c4 ((l.take i).flatMap rentCells) rfl hown4 (some ⟨b, o + (i + 1) * 3, none⟩) w.heap.size (l.length - (i + 1)) (c - (i + 1)) ((l.drop (i + 1)).flatMap rentCells) rfl (hR.below hB4) (fun h => by cases h) (rent_one _) (l.length - 1) (by omega) (by unfold maxLen; omega) (by omega) hB4.size ?_
    intro A5 c5 w5 hown5 hg5 hb5
    refine hK.out _ _ ?_ (fun hHeld => ?_)
    · trivial
    clear hK K
    (try simp only [Act.put, List.setIfInBounds_toArray, List.set_cons_zero, List.set_cons_succ])
    refine heldTake 10 (v := ?_) (by simp only [List.getElem?_toArray, List.getElem?_cons_succ, List.getElem?_cons_zero]; rfl) (by kernel_rfl) (by intro _ _ _ h; exact h) (by rfl) (by assumption) ?_ ?_
    rotate_left
    · intro W hSw; (try dsimp only at hSw); go_simp; try with_reducible rfl
    simp only [Act.put, List.setIfInBounds_toArray, List.set_cons_zero, List.set_cons_succ]
    refine heldDone (by kernel_rfl) ?_ _
    go_wp2
    refine bodyPost_ret (results_tmp rfl _ _ _) rfl ?_
    exact HFIN.out _ _ _ hown5 (hB4.trans hb5)

/-- All but a key's. -/
def woV (l : List REnt) (key : ByteArray) : List REnt := l.filter fun x => decide (x.key ≠ key)
def rputV (l : List REnt) (sz : Int) (e : REnt) : List REnt := if sz < ((woV l e.key).length : Int) + 1 then (woV l e.key ++ [e]).drop 1 else woV l e.key ++ [e]
theorem wo_none {l : List REnt} {key : ByteArray} (h : ∀ e ∈ l, e.key ≠ key) : woV l key = l := by
  unfold woV
  rw [List.filter_eq_self]
  intro e he
  simpa using h e he
theorem wo_at {l : List REnt} {key : ByteArray} (hn : (l.map (·.key)).Nodup) {k : Nat} (hk : k < l.length) (he : l[k].key = key) : woV l key = l.take k ++ l.drop (k + 1) := by
  have hsplit : l = l.take k ++ l[k] :: l.drop (k + 1) := by
    rw [← List.drop_eq_getElem_cons hk, List.take_append_drop]
  have hnk : ∀ x, x ∈ l.take k ∨ x ∈ l.drop (k + 1) → x.key ≠ key := by
    have h2 := hn
    rw [hsplit, List.map_append, List.map_cons, List.nodup_append, List.nodup_cons] at h2
    intro x hx e
    rcases hx with hx | hx
    · exact h2.2.2 x.key (List.mem_map.2 ⟨x, hx, rfl⟩) l[k].key (by simp) (by rw [e, he])
    · exact h2.2.1.1 (by rw [he, ← e]; exact List.mem_map.2 ⟨x, hx, rfl⟩)
  unfold woV
  conv => lhs; rw [hsplit]
  rw [List.filter_append, List.filter_cons, if_neg (by simp [he])]
  rw [List.filter_eq_self.2 (fun x hx => by simpa using hnk x (.inl hx)), List.filter_eq_self.2 (fun x hx => by simpa using hnk x (.inr hx))]

theorem rput_all {w w5 : World} {l l2 : List REnt} {sz : Int} {e : REnt} {A5 : Option Addr} {c5 : Nat} (hl2 : l2 = woV l e.key) (hs : ¬ sz < (l2.length : Int) + 1) (ho : w5.ownsRow w.heap.size 41 3 (.slice A5 (l2.length + 1) c5) (l2.length + 1) (l2.flatMap rentCells ++ rentCells e)) (hb : Below w.heap.size w w5) :
    RowE w (rputV l sz e) (.returned (.slice A5 (l2.length + 1) c5)) w5 := by
  have hV : rputV l sz e = l2 ++ [e] := by unfold rputV; rw [← hl2, if_neg hs]
  have hlen : (l2 ++ [e]).length = l2.length + 1 := by simp
  rw [hV]
  refine ⟨A5, c5, by rw [hlen], EntsAt.of_own (base := w.heap.size) ?_, own_new ho, hb⟩
  rw [hlen, List.flatMap_append]
  simpa using ho
theorem rput_less {w w5 : World} {l l2 : List REnt} {sz : Int} {e : REnt} {g5 c5 : Nat} (hl2 : l2 = woV l e.key) (hs : sz < (l2.length : Int) + 1) (ho : w5.ownsRow w.heap.size 41 3 (.slice (some ⟨g5, 0, none⟩) (l2.length + 1) c5) (l2.length + 1) (l2.flatMap rentCells ++ rentCells e)) (hb : Below w.heap.size w w5) :
    RowE w (rputV l sz e) (.returned (.slice (if c5 = 1 then some ⟨g5, 0, none⟩ else some ⟨g5, 3, none⟩) l2.length (c5 - 1))) w5 := by
  have hV : rputV l sz e = (l2 ++ [e]).drop 1 := by unfold rputV; rw [← hl2, if_pos hs]
  have hlen : (l2 ++ [e]).length = l2.length + 1 := by simp
  have hE : EntsAt w5 (some ⟨g5, 0, none⟩) c5 (l2 ++ [e]) := by
    refine EntsAt.of_own (base := w.heap.size) ?_
    rw [hlen, List.flatMap_append]
    simpa using ho
  have hd := hE.1.drop (m := 1) (c := c5) (by simp) hE.2.1 rfl
  rw [flat_drop (e := rentCells) (k := 3) (fun _ => rfl)] at hd
  have hle : l2.length + 1 ≤ c5 := by have := hE.2.1; rw [hlen] at this; exact this
  have hdl : ((l2 ++ [e]).drop 1).length = l2.length := by simp
  have hnw := own_new ho g5 0 none rfl
  rw [hV]
  refine ⟨_, c5 - 1, by rw [hdl], ⟨?_, by rw [hdl]; omega, ?_, ?_⟩, ?_, hb⟩
  · rw [hdl]
    rw [hlen] at hd
    simpa using hd
  · split <;> intro h <;> cases h
  · intro b o sp h
    split at h <;> (injection h with h; injection h with _ _ h; exact h.symm)
  · intro b o sp h
    split at h <;> (injection h with h; injection h with h; subst h; exact hnw)

set_option maxRecDepth 20000 in
set_option maxHeartbeats 8000000 in
theorem rput29_any {w : World} {A : Option Addr} {c : Nat} {l : List REnt} (h : EntsAt w A c l) (hl : (l.length : Int) ≤ 1000000) (sz : Int) (e : REnt) (hn : (l.map (·.key)).Nodup) :
    Calls Try.prog 14 #[.slice A l.length c, .int .i64 sz, .agg #[.string e.key, .string e.val, .slice e.deps.adr e.deps.l.length e.deps.cap]] w (RowE w (rputV l sz e)) := by
  have hbx : Below w.heap.size w (w.alloc (.cells #[.string e.key, .string e.val, .slice e.deps.adr e.deps.l.length e.deps.cap] 41)) := (Below.refl _ _).alloc (Nat.le_refl _) _
  have h1 := h.below hbx
  have HH1 := Lib.hid h1
  have HN := Lib.hid hn
  clear h h1 hn
  have b0 : (w.alloc (.cells #[.string e.key, .string e.val, .slice e.deps.adr e.deps.l.length e.deps.cap] 41)).cell? ⟨w.heap.size, 0, none⟩ = some (.string e.key) := by simp
  have b1 : (w.alloc (.cells #[.string e.key, .string e.val, .slice e.deps.adr e.deps.l.length e.deps.cap] 41)).cell? ⟨w.heap.size, 1, none⟩ = some (.string e.val) := by simp
  have b2 : (w.alloc (.cells #[.string e.key, .string e.val, .slice e.deps.adr e.deps.l.length e.deps.cap] 41)).cell? ⟨w.heap.size, 2, none⟩ = some (.slice e.deps.adr e.deps.l.length e.deps.cap) := by simp
  have hbl : w.heap.size < (w.alloc (.cells #[.string e.key, .string e.val, .slice e.deps.adr e.deps.l.length e.deps.cap] 41)).heap.size := by simp
  go_enter Try.func14, Try.ntmps14
  go_wp2_with fail
  generalize w.alloc (.cells #[.string e.key, .string e.val, .slice e.deps.adr e.deps.l.length e.deps.cap] 41) = w1 at *
  refine (rat29_any HH1.out hl e.key).mono ?_
  rintro e0 w1' ⟨i, rfl, hi, rfl⟩
  rcases hi with ⟨rfl, hno⟩ | ⟨k, hk, rfl, hke, hmin⟩
  · have hr2 := HH1.out.1
    have HN2 := Lib.hid HH1.out.2.2.1
    have HWO : Hid (l = woV l e.key) := Lib.hid (wo_none hno).symm
    clear hno
    obtain ⟨l2, hl2⟩ : ∃ l2, l2 = l := ⟨_, rfl⟩
    have HL2 : Hid (l2 = woV l e.key) := Lib.hid (hl2.trans HWO.out)
    rw [← hl2] at hr2 hl ⊢
    obtain ⟨A2, rfl⟩ : ∃ A2, A2 = A := ⟨_, rfl⟩
    obtain ⟨c2, rfl⟩ : ∃ c2, c2 = c := ⟨_, rfl⟩
    obtain ⟨w2, rfl⟩ : ∃ w2, w2 = w1 := ⟨_, rfl⟩
    clear HWO HH1 hl2
    have hB2 := hbx
    go_wp2_with fail
    refine heldStart 6 (S := fun W => W.cell? ⟨w.heap.size, 0, none⟩ = some (.string e.key) ∧ W.cell? ⟨w.heap.size, 1, none⟩ = some (.string e.val) ∧ W.cell? ⟨w.heap.size, 2, none⟩ = some (.slice e.deps.adr e.deps.l.length e.deps.cap)) (by kernel_rfl) ?_ (fun hHeld => ?_)
    · exact ⟨(Below.cell (p := ⟨w.heap.size, 0, none⟩) (by repeat (first | exact Below.refl _ _ | exact hB4 | exact hB5 | refine Below.alloc ?_ (by first | (simp; done) | (have := hB4.size; simp; omega) | (have := hB4.size; omega)) _ | refine Below.drew ?_)) hbl).trans b0, (Below.cell (p := ⟨w.heap.size, 1, none⟩) (by repeat (first | exact Below.refl _ _ | exact hB4 | exact hB5 | refine Below.alloc ?_ (by first | (simp; done) | (have := hB4.size; simp; omega) | (have := hB4.size; omega)) _ | refine Below.drew ?_)) hbl).trans b1, (Below.cell (p := ⟨w.heap.size, 2, none⟩) (by repeat (first | exact Below.refl _ _ | exact hB4 | exact hB5 | refine Below.alloc ?_ (by first | (simp; done) | (have := hB4.size; simp; omega) | (have := hB4.size; omega)) _ | refine Below.drew ?_)) hbl).trans b2⟩
    refine heldTake 1 (v := ?_) (by simp only [List.getElem?_toArray, List.getElem?_cons_succ, List.getElem?_cons_zero]; rfl) (by kernel_rfl) (by intro _ _ _ h; exact h) (by rfl) (by assumption) ?_ ?_
    rotate_left
    · intro W hSw; (try dsimp only at hSw); go_simp; try with_reducible rfl
    simp only [Act.put, List.setIfInBounds_toArray, List.set_cons_zero, List.set_cons_succ]
    refine heldTake 3 (v := ?_) (by simp only [List.getElem?_toArray, List.getElem?_cons_succ, List.getElem?_cons_zero]; rfl) (by kernel_rfl) (by intro _ _ _ h; exact h) (by rfl) (by assumption) ?_ ?_
    rotate_left
    · intro W hSw; (try dsimp only at hSw); go_simp; try with_reducible rfl
    simp only [Act.put, List.setIfInBounds_toArray, List.set_cons_zero, List.set_cons_succ]
    refine heldFork 0 4 (by kernel_rfl) ?_ ?_
    · refine heldOp 0 (by simp only [List.getElem?_toArray, List.getElem?_cons_succ, List.getElem?_cons_zero]; rfl) (fun K hK => ?_)
      go_simp
      refine hK.out _ _ ?_ (fun hHeld => ?_)
      · exact ⟨(Below.cell (p := ⟨w.heap.size, 0, none⟩) (by repeat (first | exact Below.refl _ _ | exact hB4 | exact hB5 | refine Below.alloc ?_ (by first | (simp; done) | (have := hB4.size; simp; omega) | (have := hB4.size; omega)) _ | refine Below.drew ?_)) hbl).trans b0, (Below.cell (p := ⟨w.heap.size, 1, none⟩) (by repeat (first | exact Below.refl _ _ | exact hB4 | exact hB5 | refine Below.alloc ?_ (by first | (simp; done) | (have := hB4.size; simp; omega) | (have := hB4.size; omega)) _ | refine Below.drew ?_)) hbl).trans b1, (Below.cell (p := ⟨w.heap.size, 2, none⟩) (by repeat (first | exact Below.refl _ _ | exact hB4 | exact hB5 | refine Below.alloc ?_ (by first | (simp; done) | (have := hB4.size; simp; omega) | (have := hB4.size; omega)) _ | refine Below.drew ?_)) hbl).trans b2⟩
      clear hK K
      (try simp only [Act.put, List.setIfInBounds_toArray, List.set_cons_zero, List.set_cons_succ])
      refine heldFork 2 4 (by kernel_rfl) ?_ ?_
      · refine heldOpLaw 2 (by simp only [List.getElem?_toArray, List.getElem?_cons_succ, List.getElem?_cons_zero]; rfl) (by rfl) (fun K hK => ?_)
        refine wp_append_to _ (.tmp 18) (.tmp 19) _ rfl w2.heap.size 41 (.agg #[.string ByteArray.empty, .string ByteArray.empty, .slice none 0 0]) 3 56 Try.underlying37 rent_info rfl (by omega) (some ⟨_, 0, none⟩) 0 0 [] rfl (own_empty (by simp) (by first | exact heapN1 _ _ | exact heapN3 _ _ _ | exact heapN2 _ _ _)) A2 w2.heap.size l2.length c2 (l2.flatMap rentCells) rfl (hr2.below (by repeat (first | exact Below.refl _ _ | exact hB4 | exact hB5 | refine Below.alloc ?_ (by first | (simp; done) | (have := hB4.size; simp; omega) | (have := hB4.size; omega)) _ | refine Below.drew ?_))) HN2.out (rent_one _) l2.length (by omega) (by unfold maxLen; omega) (by omega) (by first | (simp; done) | (simp; omega)) ?_
        intro A4 c4 w4 hown4 hg4 hb4
        have hB4 : Below w2.heap.size w2 w4 := Below.trans (by repeat (first | exact Below.refl _ _ | exact hB4 | exact hB5 | refine Below.alloc ?_ (by first | (simp; done) | (have := hB4.size; simp; omega) | (have := hB4.size; omega)) _ | refine Below.drew ?_)) hb4
        simp only [List.nil_append] at hown4
        refine hK.out _ _ ?_ (fun hHeld => ?_)
        · exact ⟨(Below.cell (p := ⟨w.heap.size, 0, none⟩) (by repeat (first | exact Below.refl _ _ | exact hB4 | exact hB5 | refine Below.alloc ?_ (by first | (simp; done) | (have := hB4.size; simp; omega) | (have := hB4.size; omega)) _ | refine Below.drew ?_)) hbl).trans b0, (Below.cell (p := ⟨w.heap.size, 1, none⟩) (by repeat (first | exact Below.refl _ _ | exact hB4 | exact hB5 | refine Below.alloc ?_ (by first | (simp; done) | (have := hB4.size; simp; omega) | (have := hB4.size; omega)) _ | refine Below.drew ?_)) hbl).trans b1, (Below.cell (p := ⟨w.heap.size, 2, none⟩) (by repeat (first | exact Below.refl _ _ | exact hB4 | exact hB5 | refine Below.alloc ?_ (by first | (simp; done) | (have := hB4.size; simp; omega) | (have := hB4.size; omega)) _ | refine Below.drew ?_)) hbl).trans b2⟩
        clear hK K
        (try simp only [Act.put, List.setIfInBounds_toArray, List.set_cons_zero, List.set_cons_succ])
        refine heldCall 4 (by simp only [List.getElem?_toArray, List.getElem?_cons_succ, List.getElem?_cons_zero]; rfl) (by kernel_rfl) (fun K hK => ?_)
        go_simp
        refine hK.out _ _ ?_ (fun hHeld => ?_)
        · exact ⟨(Below.cell (p := ⟨w.heap.size, 0, none⟩) (by repeat (first | exact Below.refl _ _ | exact hB4 | exact hB5 | refine Below.alloc ?_ (by first | (simp; done) | (have := hB4.size; simp; omega) | (have := hB4.size; omega)) _ | refine Below.drew ?_)) hbl).trans b0, (Below.cell (p := ⟨w.heap.size, 1, none⟩) (by repeat (first | exact Below.refl _ _ | exact hB4 | exact hB5 | refine Below.alloc ?_ (by first | (simp; done) | (have := hB4.size; simp; omega) | (have := hB4.size; omega)) _ | refine Below.drew ?_)) hbl).trans b1, (Below.cell (p := ⟨w.heap.size, 2, none⟩) (by repeat (first | exact Below.refl _ _ | exact hB4 | exact hB5 | refine Below.alloc ?_ (by first | (simp; done) | (have := hB4.size; simp; omega) | (have := hB4.size; omega)) _ | refine Below.drew ?_)) hbl).trans b2⟩
        clear hK K
        (try simp only [Act.put, List.setIfInBounds_toArray, List.set_cons_zero, List.set_cons_succ])
        refine heldLaw 5 (by simp only [List.getElem?_toArray, List.getElem?_cons_succ, List.getElem?_cons_zero]; rfl) (by kernel_rfl) (by rfl) (fun K hK => ?_)
        refine wp_append_to _ (.tmp 20) (.tmp 22) _ rfl w2.heap.size 41 (.agg #[.string ByteArray.empty, .string ByteArray.empty, .slice none 0 0]) 3 56 Try.underlying37 rent_info rfl (by omega) A4 l2.length c4 (l2.flatMap rentCells) rfl (hown4.alloc _) (some ⟨_, 0, none⟩) _ 1 1 [.string e.key, .string e.val, .slice e.deps.adr e.deps.l.length e.deps.cap] rfl (reads_blk (t := 41) (fr := (0, 0)) (heapM1 _ _) rfl) (fun h => by cases h) (rent_one1 e) (l2.length + 1) rfl (by unfold maxLen; omega) (by omega) (by have := hB4.size; first | (simp; done) | (simp; omega) | omega) ?_
        intro A5 c5 w5 hown5 hg5 hb5
        have hB5 : Below w2.heap.size w2 w5 := Below.trans (by repeat (first | exact Below.refl _ _ | exact hB4 | exact hB5 | refine Below.alloc ?_ (by first | (simp; done) | (have := hB4.size; simp; omega) | (have := hB4.size; omega)) _ | refine Below.drew ?_)) hb5
        refine hK.out _ _ ?_ (fun hHeld => ?_)
        · exact ⟨(Below.cell (p := ⟨w.heap.size, 0, none⟩) (by repeat (first | exact Below.refl _ _ | exact hB4 | exact hB5 | refine Below.alloc ?_ (by first | (simp; done) | (have := hB4.size; simp; omega) | (have := hB4.size; omega)) _ | refine Below.drew ?_)) hbl).trans b0, (Below.cell (p := ⟨w.heap.size, 1, none⟩) (by repeat (first | exact Below.refl _ _ | exact hB4 | exact hB5 | refine Below.alloc ?_ (by first | (simp; done) | (have := hB4.size; simp; omega) | (have := hB4.size; omega)) _ | refine Below.drew ?_)) hbl).trans b1, (Below.cell (p := ⟨w.heap.size, 2, none⟩) (by repeat (first | exact Below.refl _ _ | exact hB4 | exact hB5 | refine Below.alloc ?_ (by first | (simp; done) | (have := hB4.size; simp; omega) | (have := hB4.size; omega)) _ | refine Below.drew ?_)) hbl).trans b2⟩
        clear hK K
        (try simp only [Act.put, List.setIfInBounds_toArray, List.set_cons_zero, List.set_cons_succ])
        refine heldTake 6 (v := ?_) (by simp only [List.getElem?_toArray, List.getElem?_cons_succ, List.getElem?_cons_zero]; rfl) (by kernel_rfl) (by intro _ _ _ h; exact h) (by rfl) (by assumption) ?_ ?_
        rotate_left
        · intro W hSw; (try dsimp only at hSw); go_simp; try with_reducible rfl
        simp only [Act.put, List.setIfInBounds_toArray, List.set_cons_zero, List.set_cons_succ]
        refine heldDone (by kernel_rfl) ?_ _
        have HO5 := Lib.hid (own_base hown5 (base' := w.heap.size) hB2.size)
        have HB5 : Hid (Below w.heap.size w w5) := Lib.hid (hB2.trans (hB5.mono hB2.size))
        obtain ⟨g5, cap5, hv5, _, _⟩ := hown5.form (by omega)
        injection hv5 with hv5 hn5 hc5
        subst hv5
        subst hc5
        have hcp5 : (l2.length : Int) + 1 ≤ (c5 : Int) := by have := (EntsAt.of_own (l := l2 ++ [e]) (base := w2.heap.size) (w := w5) (A := some ⟨g5, 0, none⟩) (c := c5) (by rw [show (l2 ++ [e]).length = l2.length + 1 by simp, List.flatMap_append]; simpa [rentCells] using hown5)).2.1; simp at this; omega
        clear hown5 hg5 hb5 hB5 hn5
        by_cases hs : sz < (l2.length : Int) + 1
        · have HP := Lib.hid (rput_less HL2.out hs HO5.out HB5.out)
          by_cases hc1 : c5 = 1
          · subst hc1
            simp only [if_true] at HP
            go_wp2
            refine bodyPost_ret (results_tmp rfl _ _ _) rfl ?_
            exact HP.out
          · rw [if_neg hc1] at HP
            go_wp2
            refine bodyPost_ret (results_tmp rfl _ _ _) rfl ?_
            exact HP.out
        · have HP := Lib.hid (rput_all HL2.out hs HO5.out HB5.out)
          go_wp2
          refine bodyPost_ret (results_tmp rfl _ _ _) rfl ?_
          exact HP.out
      · refine heldOp 4 (by simp only [List.getElem?_toArray, List.getElem?_cons_succ, List.getElem?_cons_zero]; rfl) (fun K hK => ?_)
        go_simp
        refine hK.out _ _ ?_ (fun hHeld => ?_)
        · exact ⟨(Below.cell (p := ⟨w.heap.size, 0, none⟩) (by repeat (first | exact Below.refl _ _ | exact hB4 | exact hB5 | refine Below.alloc ?_ (by first | (simp; done) | (have := hB4.size; simp; omega) | (have := hB4.size; omega)) _ | refine Below.drew ?_)) hbl).trans b0, (Below.cell (p := ⟨w.heap.size, 1, none⟩) (by repeat (first | exact Below.refl _ _ | exact hB4 | exact hB5 | refine Below.alloc ?_ (by first | (simp; done) | (have := hB4.size; simp; omega) | (have := hB4.size; omega)) _ | refine Below.drew ?_)) hbl).trans b1, (Below.cell (p := ⟨w.heap.size, 2, none⟩) (by repeat (first | exact Below.refl _ _ | exact hB4 | exact hB5 | refine Below.alloc ?_ (by first | (simp; done) | (have := hB4.size; simp; omega) | (have := hB4.size; omega)) _ | refine Below.drew ?_)) hbl).trans b2⟩
        clear hK K
        (try simp only [Act.put, List.setIfInBounds_toArray, List.set_cons_zero, List.set_cons_succ])
        refine heldLaw 2 (by simp only [List.getElem?_toArray, List.getElem?_cons_succ, List.getElem?_cons_zero]; rfl) (by kernel_rfl) (by rfl) (fun K hK => ?_)
        refine wp_append_to _ (.tmp 18) (.tmp 19) _ rfl w2.heap.size 41 (.agg #[.string ByteArray.empty, .string ByteArray.empty, .slice none 0 0]) 3 56 Try.underlying37 rent_info rfl (by omega) (some ⟨_, 0, none⟩) 0 0 [] rfl (own_empty (by simp) (by first | exact heapN1 _ _ | exact heapN3 _ _ _ | exact heapN2 _ _ _)) A2 w2.heap.size l2.length c2 (l2.flatMap rentCells) rfl (hr2.below (by repeat (first | exact Below.refl _ _ | exact hB4 | exact hB5 | refine Below.alloc ?_ (by first | (simp; done) | (have := hB4.size; simp; omega) | (have := hB4.size; omega)) _ | refine Below.drew ?_))) HN2.out (rent_one _) l2.length (by omega) (by unfold maxLen; omega) (by omega) (by first | (simp; done) | (simp; omega)) ?_
        intro A4 c4 w4 hown4 hg4 hb4
        have hB4 : Below w2.heap.size w2 w4 := Below.trans (by repeat (first | exact Below.refl _ _ | exact hB4 | exact hB5 | refine Below.alloc ?_ (by first | (simp; done) | (have := hB4.size; simp; omega) | (have := hB4.size; omega)) _ | refine Below.drew ?_)) hb4
        simp only [List.nil_append] at hown4
        refine hK.out _ _ ?_ (fun hHeld => ?_)
        · exact ⟨(Below.cell (p := ⟨w.heap.size, 0, none⟩) (by repeat (first | exact Below.refl _ _ | exact hB4 | exact hB5 | refine Below.alloc ?_ (by first | (simp; done) | (have := hB4.size; simp; omega) | (have := hB4.size; omega)) _ | refine Below.drew ?_)) hbl).trans b0, (Below.cell (p := ⟨w.heap.size, 1, none⟩) (by repeat (first | exact Below.refl _ _ | exact hB4 | exact hB5 | refine Below.alloc ?_ (by first | (simp; done) | (have := hB4.size; simp; omega) | (have := hB4.size; omega)) _ | refine Below.drew ?_)) hbl).trans b1, (Below.cell (p := ⟨w.heap.size, 2, none⟩) (by repeat (first | exact Below.refl _ _ | exact hB4 | exact hB5 | refine Below.alloc ?_ (by first | (simp; done) | (have := hB4.size; simp; omega) | (have := hB4.size; omega)) _ | refine Below.drew ?_)) hbl).trans b2⟩
        clear hK K
        (try simp only [Act.put, List.setIfInBounds_toArray, List.set_cons_zero, List.set_cons_succ])
        refine heldLaw 5 (by simp only [List.getElem?_toArray, List.getElem?_cons_succ, List.getElem?_cons_zero]; rfl) (by kernel_rfl) (by rfl) (fun K hK => ?_)
        refine wp_append_to _ (.tmp 20) (.tmp 22) _ rfl w2.heap.size 41 (.agg #[.string ByteArray.empty, .string ByteArray.empty, .slice none 0 0]) 3 56 Try.underlying37 rent_info rfl (by omega) A4 l2.length c4 (l2.flatMap rentCells) rfl hown4 (some ⟨_, 0, none⟩) _ 1 1 [.string e.key, .string e.val, .slice e.deps.adr e.deps.l.length e.deps.cap] rfl (reads_blk (t := 41) (fr := (0, 0)) ((hg4.block _ (by first | (simp; done) | (simp; omega)) (by simp [Value.ownBlock])).trans (by first | exact heapN2 _ _ _ | exact heapN3 _ _ _)) rfl) (fun h => by cases h) (rent_one1 e) (l2.length + 1) rfl (by unfold maxLen; omega) (by omega) (by have := hB4.size; first | (simp; done) | (simp; omega) | omega) ?_
        intro A5 c5 w5 hown5 hg5 hb5
        have hB5 : Below w2.heap.size w2 w5 := Below.trans (by repeat (first | exact Below.refl _ _ | exact hB4 | exact hB5 | refine Below.alloc ?_ (by first | (simp; done) | (have := hB4.size; simp; omega) | (have := hB4.size; omega)) _ | refine Below.drew ?_)) hb5
        refine hK.out _ _ ?_ (fun hHeld => ?_)
        · exact ⟨(Below.cell (p := ⟨w.heap.size, 0, none⟩) (by repeat (first | exact Below.refl _ _ | exact hB4 | exact hB5 | refine Below.alloc ?_ (by first | (simp; done) | (have := hB4.size; simp; omega) | (have := hB4.size; omega)) _ | refine Below.drew ?_)) hbl).trans b0, (Below.cell (p := ⟨w.heap.size, 1, none⟩) (by repeat (first | exact Below.refl _ _ | exact hB4 | exact hB5 | refine Below.alloc ?_ (by first | (simp; done) | (have := hB4.size; simp; omega) | (have := hB4.size; omega)) _ | refine Below.drew ?_)) hbl).trans b1, (Below.cell (p := ⟨w.heap.size, 2, none⟩) (by repeat (first | exact Below.refl _ _ | exact hB4 | exact hB5 | refine Below.alloc ?_ (by first | (simp; done) | (have := hB4.size; simp; omega) | (have := hB4.size; omega)) _ | refine Below.drew ?_)) hbl).trans b2⟩
        clear hK K
        (try simp only [Act.put, List.setIfInBounds_toArray, List.set_cons_zero, List.set_cons_succ])
        refine heldTake 6 (v := ?_) (by simp only [List.getElem?_toArray, List.getElem?_cons_succ, List.getElem?_cons_zero]; rfl) (by kernel_rfl) (by intro _ _ _ h; exact h) (by rfl) (by assumption) ?_ ?_
        rotate_left
        · intro W hSw; (try dsimp only at hSw); go_simp; try with_reducible rfl
        simp only [Act.put, List.setIfInBounds_toArray, List.set_cons_zero, List.set_cons_succ]
        refine heldDone (by kernel_rfl) ?_ _
        have HO5 := Lib.hid (own_base hown5 (base' := w.heap.size) hB2.size)
        have HB5 : Hid (Below w.heap.size w w5) := Lib.hid (hB2.trans (hB5.mono hB2.size))
        obtain ⟨g5, cap5, hv5, _, _⟩ := hown5.form (by omega)
        injection hv5 with hv5 hn5 hc5
        subst hv5
        subst hc5
        have hcp5 : (l2.length : Int) + 1 ≤ (c5 : Int) := by have := (EntsAt.of_own (l := l2 ++ [e]) (base := w2.heap.size) (w := w5) (A := some ⟨g5, 0, none⟩) (c := c5) (by rw [show (l2 ++ [e]).length = l2.length + 1 by simp, List.flatMap_append]; simpa [rentCells] using hown5)).2.1; simp at this; omega
        clear hown5 hg5 hb5 hB5 hn5
        by_cases hs : sz < (l2.length : Int) + 1
        · have HP := Lib.hid (rput_less HL2.out hs HO5.out HB5.out)
          by_cases hc1 : c5 = 1
          · subst hc1
            simp only [if_true] at HP
            go_wp2
            refine bodyPost_ret (results_tmp rfl _ _ _) rfl ?_
            exact HP.out
          · rw [if_neg hc1] at HP
            go_wp2
            refine bodyPost_ret (results_tmp rfl _ _ _) rfl ?_
            exact HP.out
        · have HP := Lib.hid (rput_all HL2.out hs HO5.out HB5.out)
          go_wp2
          refine bodyPost_ret (results_tmp rfl _ _ _) rfl ?_
          exact HP.out
    · refine heldOp 4 (by simp only [List.getElem?_toArray, List.getElem?_cons_succ, List.getElem?_cons_zero]; rfl) (fun K hK => ?_)
      go_simp
      refine hK.out _ _ ?_ (fun hHeld => ?_)
      · exact ⟨(Below.cell (p := ⟨w.heap.size, 0, none⟩) (by repeat (first | exact Below.refl _ _ | exact hB4 | exact hB5 | refine Below.alloc ?_ (by first | (simp; done) | (have := hB4.size; simp; omega) | (have := hB4.size; omega)) _ | refine Below.drew ?_)) hbl).trans b0, (Below.cell (p := ⟨w.heap.size, 1, none⟩) (by repeat (first | exact Below.refl _ _ | exact hB4 | exact hB5 | refine Below.alloc ?_ (by first | (simp; done) | (have := hB4.size; simp; omega) | (have := hB4.size; omega)) _ | refine Below.drew ?_)) hbl).trans b1, (Below.cell (p := ⟨w.heap.size, 2, none⟩) (by repeat (first | exact Below.refl _ _ | exact hB4 | exact hB5 | refine Below.alloc ?_ (by first | (simp; done) | (have := hB4.size; simp; omega) | (have := hB4.size; omega)) _ | refine Below.drew ?_)) hbl).trans b2⟩
      clear hK K
      (try simp only [Act.put, List.setIfInBounds_toArray, List.set_cons_zero, List.set_cons_succ])
      refine heldCall 0 (by simp only [List.getElem?_toArray, List.getElem?_cons_succ, List.getElem?_cons_zero]; rfl) (by kernel_rfl) (fun K hK => ?_)
      go_simp
      refine hK.out _ _ ?_ (fun hHeld => ?_)
      · exact ⟨(Below.cell (p := ⟨w.heap.size, 0, none⟩) (by repeat (first | exact Below.refl _ _ | exact hB4 | exact hB5 | refine Below.alloc ?_ (by first | (simp; done) | (have := hB4.size; simp; omega) | (have := hB4.size; omega)) _ | refine Below.drew ?_)) hbl).trans b0, (Below.cell (p := ⟨w.heap.size, 1, none⟩) (by repeat (first | exact Below.refl _ _ | exact hB4 | exact hB5 | refine Below.alloc ?_ (by first | (simp; done) | (have := hB4.size; simp; omega) | (have := hB4.size; omega)) _ | refine Below.drew ?_)) hbl).trans b1, (Below.cell (p := ⟨w.heap.size, 2, none⟩) (by repeat (first | exact Below.refl _ _ | exact hB4 | exact hB5 | refine Below.alloc ?_ (by first | (simp; done) | (have := hB4.size; simp; omega) | (have := hB4.size; omega)) _ | refine Below.drew ?_)) hbl).trans b2⟩
      clear hK K
      (try simp only [Act.put, List.setIfInBounds_toArray, List.set_cons_zero, List.set_cons_succ])
      refine heldLaw 2 (by simp only [List.getElem?_toArray, List.getElem?_cons_succ, List.getElem?_cons_zero]; rfl) (by kernel_rfl) (by rfl) (fun K hK => ?_)
      refine wp_append_to _ (.tmp 18) (.tmp 19) _ rfl w2.heap.size 41 (.agg #[.string ByteArray.empty, .string ByteArray.empty, .slice none 0 0]) 3 56 Try.underlying37 rent_info rfl (by omega) (some ⟨_, 0, none⟩) 0 0 [] rfl (own_empty (by simp) (by first | exact heapN1 _ _ | exact heapN3 _ _ _ | exact heapN2 _ _ _)) A2 w2.heap.size l2.length c2 (l2.flatMap rentCells) rfl (hr2.below (by repeat (first | exact Below.refl _ _ | exact hB4 | exact hB5 | refine Below.alloc ?_ (by first | (simp; done) | (have := hB4.size; simp; omega) | (have := hB4.size; omega)) _ | refine Below.drew ?_))) HN2.out (rent_one _) l2.length (by omega) (by unfold maxLen; omega) (by omega) (by first | (simp; done) | (simp; omega)) ?_
      intro A4 c4 w4 hown4 hg4 hb4
      have hB4 : Below w2.heap.size w2 w4 := Below.trans (by repeat (first | exact Below.refl _ _ | exact hB4 | exact hB5 | refine Below.alloc ?_ (by first | (simp; done) | (have := hB4.size; simp; omega) | (have := hB4.size; omega)) _ | refine Below.drew ?_)) hb4
      simp only [List.nil_append] at hown4
      refine hK.out _ _ ?_ (fun hHeld => ?_)
      · exact ⟨(Below.cell (p := ⟨w.heap.size, 0, none⟩) (by repeat (first | exact Below.refl _ _ | exact hB4 | exact hB5 | refine Below.alloc ?_ (by first | (simp; done) | (have := hB4.size; simp; omega) | (have := hB4.size; omega)) _ | refine Below.drew ?_)) hbl).trans b0, (Below.cell (p := ⟨w.heap.size, 1, none⟩) (by repeat (first | exact Below.refl _ _ | exact hB4 | exact hB5 | refine Below.alloc ?_ (by first | (simp; done) | (have := hB4.size; simp; omega) | (have := hB4.size; omega)) _ | refine Below.drew ?_)) hbl).trans b1, (Below.cell (p := ⟨w.heap.size, 2, none⟩) (by repeat (first | exact Below.refl _ _ | exact hB4 | exact hB5 | refine Below.alloc ?_ (by first | (simp; done) | (have := hB4.size; simp; omega) | (have := hB4.size; omega)) _ | refine Below.drew ?_)) hbl).trans b2⟩
      clear hK K
      (try simp only [Act.put, List.setIfInBounds_toArray, List.set_cons_zero, List.set_cons_succ])
      refine heldLaw 5 (by simp only [List.getElem?_toArray, List.getElem?_cons_succ, List.getElem?_cons_zero]; rfl) (by kernel_rfl) (by rfl) (fun K hK => ?_)
      refine wp_append_to _ (.tmp 20) (.tmp 22) _ rfl w2.heap.size 41 (.agg #[.string ByteArray.empty, .string ByteArray.empty, .slice none 0 0]) 3 56 Try.underlying37 rent_info rfl (by omega) A4 l2.length c4 (l2.flatMap rentCells) rfl hown4 (some ⟨_, 0, none⟩) _ 1 1 [.string e.key, .string e.val, .slice e.deps.adr e.deps.l.length e.deps.cap] rfl (reads_blk (t := 41) (fr := (0, 0)) ((hg4.block _ (by first | (simp; done) | (simp; omega)) (by simp [Value.ownBlock])).trans (by first | exact heapN2 _ _ _ | exact heapN3 _ _ _)) rfl) (fun h => by cases h) (rent_one1 e) (l2.length + 1) rfl (by unfold maxLen; omega) (by omega) (by have := hB4.size; first | (simp; done) | (simp; omega) | omega) ?_
      intro A5 c5 w5 hown5 hg5 hb5
      have hB5 : Below w2.heap.size w2 w5 := Below.trans (by repeat (first | exact Below.refl _ _ | exact hB4 | exact hB5 | refine Below.alloc ?_ (by first | (simp; done) | (have := hB4.size; simp; omega) | (have := hB4.size; omega)) _ | refine Below.drew ?_)) hb5
      refine hK.out _ _ ?_ (fun hHeld => ?_)
      · exact ⟨(Below.cell (p := ⟨w.heap.size, 0, none⟩) (by repeat (first | exact Below.refl _ _ | exact hB4 | exact hB5 | refine Below.alloc ?_ (by first | (simp; done) | (have := hB4.size; simp; omega) | (have := hB4.size; omega)) _ | refine Below.drew ?_)) hbl).trans b0, (Below.cell (p := ⟨w.heap.size, 1, none⟩) (by repeat (first | exact Below.refl _ _ | exact hB4 | exact hB5 | refine Below.alloc ?_ (by first | (simp; done) | (have := hB4.size; simp; omega) | (have := hB4.size; omega)) _ | refine Below.drew ?_)) hbl).trans b1, (Below.cell (p := ⟨w.heap.size, 2, none⟩) (by repeat (first | exact Below.refl _ _ | exact hB4 | exact hB5 | refine Below.alloc ?_ (by first | (simp; done) | (have := hB4.size; simp; omega) | (have := hB4.size; omega)) _ | refine Below.drew ?_)) hbl).trans b2⟩
      clear hK K
      (try simp only [Act.put, List.setIfInBounds_toArray, List.set_cons_zero, List.set_cons_succ])
      refine heldTake 6 (v := ?_) (by simp only [List.getElem?_toArray, List.getElem?_cons_succ, List.getElem?_cons_zero]; rfl) (by kernel_rfl) (by intro _ _ _ h; exact h) (by rfl) (by assumption) ?_ ?_
      rotate_left
      · intro W hSw; (try dsimp only at hSw); go_simp; try with_reducible rfl
      simp only [Act.put, List.setIfInBounds_toArray, List.set_cons_zero, List.set_cons_succ]
      refine heldDone (by kernel_rfl) ?_ _
      have HO5 := Lib.hid (own_base hown5 (base' := w.heap.size) hB2.size)
      have HB5 : Hid (Below w.heap.size w w5) := Lib.hid (hB2.trans (hB5.mono hB2.size))
      obtain ⟨g5, cap5, hv5, _, _⟩ := hown5.form (by omega)
      injection hv5 with hv5 hn5 hc5
      subst hv5
      subst hc5
      have hcp5 : (l2.length : Int) + 1 ≤ (c5 : Int) := by have := (EntsAt.of_own (l := l2 ++ [e]) (base := w2.heap.size) (w := w5) (A := some ⟨g5, 0, none⟩) (c := c5) (by rw [show (l2 ++ [e]).length = l2.length + 1 by simp, List.flatMap_append]; simpa [rentCells] using hown5)).2.1; simp at this; omega
      clear hown5 hg5 hb5 hB5 hn5
      by_cases hs : sz < (l2.length : Int) + 1
      · have HP := Lib.hid (rput_less HL2.out hs HO5.out HB5.out)
        by_cases hc1 : c5 = 1
        · subst hc1
          simp only [if_true] at HP
          go_wp2
          refine bodyPost_ret (results_tmp rfl _ _ _) rfl ?_
          exact HP.out
        · rw [if_neg hc1] at HP
          go_wp2
          refine bodyPost_ret (results_tmp rfl _ _ _) rfl ?_
          exact HP.out
      · have HP := Lib.hid (rput_all HL2.out hs HO5.out HB5.out)
        go_wp2
        refine bodyPost_ret (results_tmp rfl _ _ _) rfl ?_
        exact HP.out

  · clear hmin
    have HWK : Hid (woV l e.key = l.take k ++ l.drop (k + 1)) := Lib.hid (wo_at HN.out hk hke)
    obtain ⟨b, o, hA, hrest⟩ := HH1.out.one hk
    clear hrest
    subst hA
    have hk0 : 0 ≤ (k : Int) := by omega
    have q := rwithout_any HH1.out hl k hk
    have Q := Lib.hid q
    clear q hke
    go_wp2_with fail
    refine Q.out.mono ?_
    rintro e0 w2 ⟨A2, c2, rfl, hE2, hnew2, hb2⟩
    obtain ⟨l2, hl2⟩ : ∃ l2, l2 = l.take k ++ l.drop (k + 1) := ⟨_, rfl⟩
    have HL2 : Hid (l2 = woV l e.key) := Lib.hid (hl2.trans HWK.out.symm)
    have hl' : (l2.length : Int) ≤ 1000000 := by rw [hl2]; simp; omega
    rw [← hl2] at hE2 ⊢
    have hr2 := hE2.1
    have HN2 := Lib.hid hE2.2.2.1
    have hz1 := hbx.size
    have hB2 : Below w.heap.size w w2 := hbx.trans (hb2.mono hz1)
    replace b0 := (hb2.cell (p := ⟨w.heap.size, 0, none⟩) hbl).trans b0
    replace b1 := (hb2.cell (p := ⟨w.heap.size, 1, none⟩) hbl).trans b1
    replace b2 := (hb2.cell (p := ⟨w.heap.size, 2, none⟩) hbl).trans b2
    replace hbl : w.heap.size < w2.heap.size := Nat.lt_of_lt_of_le hbl hb2.size
    clear hE2 hnew2 hb2 hbx hl2 HWK HH1 Q hz1 hk hl
    have hl := hl'
    clear hl'
    go_wp2_with fail
    refine heldStart 6 (S := fun W => W.cell? ⟨w.heap.size, 0, none⟩ = some (.string e.key) ∧ W.cell? ⟨w.heap.size, 1, none⟩ = some (.string e.val) ∧ W.cell? ⟨w.heap.size, 2, none⟩ = some (.slice e.deps.adr e.deps.l.length e.deps.cap)) (by kernel_rfl) ?_ (fun hHeld => ?_)
    · exact ⟨(Below.cell (p := ⟨w.heap.size, 0, none⟩) (by repeat (first | exact Below.refl _ _ | exact hB4 | exact hB5 | refine Below.alloc ?_ (by first | (simp; done) | (have := hB4.size; simp; omega) | (have := hB4.size; omega)) _ | refine Below.drew ?_)) hbl).trans b0, (Below.cell (p := ⟨w.heap.size, 1, none⟩) (by repeat (first | exact Below.refl _ _ | exact hB4 | exact hB5 | refine Below.alloc ?_ (by first | (simp; done) | (have := hB4.size; simp; omega) | (have := hB4.size; omega)) _ | refine Below.drew ?_)) hbl).trans b1, (Below.cell (p := ⟨w.heap.size, 2, none⟩) (by repeat (first | exact Below.refl _ _ | exact hB4 | exact hB5 | refine Below.alloc ?_ (by first | (simp; done) | (have := hB4.size; simp; omega) | (have := hB4.size; omega)) _ | refine Below.drew ?_)) hbl).trans b2⟩
    refine heldTake 1 (v := ?_) (by simp only [List.getElem?_toArray, List.getElem?_cons_succ, List.getElem?_cons_zero]; rfl) (by kernel_rfl) (by intro _ _ _ h; exact h) (by rfl) (by assumption) ?_ ?_
    rotate_left
    · intro W hSw; (try dsimp only at hSw); go_simp; try with_reducible rfl
    simp only [Act.put, List.setIfInBounds_toArray, List.set_cons_zero, List.set_cons_succ]
    refine heldTake 3 (v := ?_) (by simp only [List.getElem?_toArray, List.getElem?_cons_succ, List.getElem?_cons_zero]; rfl) (by kernel_rfl) (by intro _ _ _ h; exact h) (by rfl) (by assumption) ?_ ?_
    rotate_left
    · intro W hSw; (try dsimp only at hSw); go_simp; try with_reducible rfl
    simp only [Act.put, List.setIfInBounds_toArray, List.set_cons_zero, List.set_cons_succ]
    refine heldFork 0 4 (by kernel_rfl) ?_ ?_
    · refine heldOp 0 (by simp only [List.getElem?_toArray, List.getElem?_cons_succ, List.getElem?_cons_zero]; rfl) (fun K hK => ?_)
      go_simp
      refine hK.out _ _ ?_ (fun hHeld => ?_)
      · exact ⟨(Below.cell (p := ⟨w.heap.size, 0, none⟩) (by repeat (first | exact Below.refl _ _ | exact hB4 | exact hB5 | refine Below.alloc ?_ (by first | (simp; done) | (have := hB4.size; simp; omega) | (have := hB4.size; omega)) _ | refine Below.drew ?_)) hbl).trans b0, (Below.cell (p := ⟨w.heap.size, 1, none⟩) (by repeat (first | exact Below.refl _ _ | exact hB4 | exact hB5 | refine Below.alloc ?_ (by first | (simp; done) | (have := hB4.size; simp; omega) | (have := hB4.size; omega)) _ | refine Below.drew ?_)) hbl).trans b1, (Below.cell (p := ⟨w.heap.size, 2, none⟩) (by repeat (first | exact Below.refl _ _ | exact hB4 | exact hB5 | refine Below.alloc ?_ (by first | (simp; done) | (have := hB4.size; simp; omega) | (have := hB4.size; omega)) _ | refine Below.drew ?_)) hbl).trans b2⟩
      clear hK K
      (try simp only [Act.put, List.setIfInBounds_toArray, List.set_cons_zero, List.set_cons_succ])
      refine heldFork 2 4 (by kernel_rfl) ?_ ?_
      · refine heldOpLaw 2 (by simp only [List.getElem?_toArray, List.getElem?_cons_succ, List.getElem?_cons_zero]; rfl) (by rfl) (fun K hK => ?_)
        refine wp_append_to _ (.tmp 18) (.tmp 19) _ rfl w2.heap.size 41 (.agg #[.string ByteArray.empty, .string ByteArray.empty, .slice none 0 0]) 3 56 Try.underlying37 rent_info rfl (by omega) (some ⟨_, 0, none⟩) 0 0 [] rfl (own_empty (by simp) (by first | exact heapN1 _ _ | exact heapN3 _ _ _ | exact heapN2 _ _ _)) A2 w2.heap.size l2.length c2 (l2.flatMap rentCells) rfl (hr2.below (by repeat (first | exact Below.refl _ _ | exact hB4 | exact hB5 | refine Below.alloc ?_ (by first | (simp; done) | (have := hB4.size; simp; omega) | (have := hB4.size; omega)) _ | refine Below.drew ?_))) HN2.out (rent_one _) l2.length (by omega) (by unfold maxLen; omega) (by omega) (by first | (simp; done) | (simp; omega)) ?_
        intro A4 c4 w4 hown4 hg4 hb4
        have hB4 : Below w2.heap.size w2 w4 := Below.trans (by repeat (first | exact Below.refl _ _ | exact hB4 | exact hB5 | refine Below.alloc ?_ (by first | (simp; done) | (have := hB4.size; simp; omega) | (have := hB4.size; omega)) _ | refine Below.drew ?_)) hb4
        simp only [List.nil_append] at hown4
        refine hK.out _ _ ?_ (fun hHeld => ?_)
        · exact ⟨(Below.cell (p := ⟨w.heap.size, 0, none⟩) (by repeat (first | exact Below.refl _ _ | exact hB4 | exact hB5 | refine Below.alloc ?_ (by first | (simp; done) | (have := hB4.size; simp; omega) | (have := hB4.size; omega)) _ | refine Below.drew ?_)) hbl).trans b0, (Below.cell (p := ⟨w.heap.size, 1, none⟩) (by repeat (first | exact Below.refl _ _ | exact hB4 | exact hB5 | refine Below.alloc ?_ (by first | (simp; done) | (have := hB4.size; simp; omega) | (have := hB4.size; omega)) _ | refine Below.drew ?_)) hbl).trans b1, (Below.cell (p := ⟨w.heap.size, 2, none⟩) (by repeat (first | exact Below.refl _ _ | exact hB4 | exact hB5 | refine Below.alloc ?_ (by first | (simp; done) | (have := hB4.size; simp; omega) | (have := hB4.size; omega)) _ | refine Below.drew ?_)) hbl).trans b2⟩
        clear hK K
        (try simp only [Act.put, List.setIfInBounds_toArray, List.set_cons_zero, List.set_cons_succ])
        refine heldCall 4 (by simp only [List.getElem?_toArray, List.getElem?_cons_succ, List.getElem?_cons_zero]; rfl) (by kernel_rfl) (fun K hK => ?_)
        go_simp
        refine hK.out _ _ ?_ (fun hHeld => ?_)
        · exact ⟨(Below.cell (p := ⟨w.heap.size, 0, none⟩) (by repeat (first | exact Below.refl _ _ | exact hB4 | exact hB5 | refine Below.alloc ?_ (by first | (simp; done) | (have := hB4.size; simp; omega) | (have := hB4.size; omega)) _ | refine Below.drew ?_)) hbl).trans b0, (Below.cell (p := ⟨w.heap.size, 1, none⟩) (by repeat (first | exact Below.refl _ _ | exact hB4 | exact hB5 | refine Below.alloc ?_ (by first | (simp; done) | (have := hB4.size; simp; omega) | (have := hB4.size; omega)) _ | refine Below.drew ?_)) hbl).trans b1, (Below.cell (p := ⟨w.heap.size, 2, none⟩) (by repeat (first | exact Below.refl _ _ | exact hB4 | exact hB5 | refine Below.alloc ?_ (by first | (simp; done) | (have := hB4.size; simp; omega) | (have := hB4.size; omega)) _ | refine Below.drew ?_)) hbl).trans b2⟩
        clear hK K
        (try simp only [Act.put, List.setIfInBounds_toArray, List.set_cons_zero, List.set_cons_succ])
        refine heldLaw 5 (by simp only [List.getElem?_toArray, List.getElem?_cons_succ, List.getElem?_cons_zero]; rfl) (by kernel_rfl) (by rfl) (fun K hK => ?_)
        refine wp_append_to _ (.tmp 20) (.tmp 22) _ rfl w2.heap.size 41 (.agg #[.string ByteArray.empty, .string ByteArray.empty, .slice none 0 0]) 3 56 Try.underlying37 rent_info rfl (by omega) A4 l2.length c4 (l2.flatMap rentCells) rfl (hown4.alloc _) (some ⟨_, 0, none⟩) _ 1 1 [.string e.key, .string e.val, .slice e.deps.adr e.deps.l.length e.deps.cap] rfl (reads_blk (t := 41) (fr := (0, 0)) (heapM1 _ _) rfl) (fun h => by cases h) (rent_one1 e) (l2.length + 1) rfl (by unfold maxLen; omega) (by omega) (by have := hB4.size; first | (simp; done) | (simp; omega) | omega) ?_
        intro A5 c5 w5 hown5 hg5 hb5
        have hB5 : Below w2.heap.size w2 w5 := Below.trans (by repeat (first | exact Below.refl _ _ | exact hB4 | exact hB5 | refine Below.alloc ?_ (by first | (simp; done) | (have := hB4.size; simp; omega) | (have := hB4.size; omega)) _ | refine Below.drew ?_)) hb5
        refine hK.out _ _ ?_ (fun hHeld => ?_)
        · exact ⟨(Below.cell (p := ⟨w.heap.size, 0, none⟩) (by repeat (first | exact Below.refl _ _ | exact hB4 | exact hB5 | refine Below.alloc ?_ (by first | (simp; done) | (have := hB4.size; simp; omega) | (have := hB4.size; omega)) _ | refine Below.drew ?_)) hbl).trans b0, (Below.cell (p := ⟨w.heap.size, 1, none⟩) (by repeat (first | exact Below.refl _ _ | exact hB4 | exact hB5 | refine Below.alloc ?_ (by first | (simp; done) | (have := hB4.size; simp; omega) | (have := hB4.size; omega)) _ | refine Below.drew ?_)) hbl).trans b1, (Below.cell (p := ⟨w.heap.size, 2, none⟩) (by repeat (first | exact Below.refl _ _ | exact hB4 | exact hB5 | refine Below.alloc ?_ (by first | (simp; done) | (have := hB4.size; simp; omega) | (have := hB4.size; omega)) _ | refine Below.drew ?_)) hbl).trans b2⟩
        clear hK K
        (try simp only [Act.put, List.setIfInBounds_toArray, List.set_cons_zero, List.set_cons_succ])
        refine heldTake 6 (v := ?_) (by simp only [List.getElem?_toArray, List.getElem?_cons_succ, List.getElem?_cons_zero]; rfl) (by kernel_rfl) (by intro _ _ _ h; exact h) (by rfl) (by assumption) ?_ ?_
        rotate_left
        · intro W hSw; (try dsimp only at hSw); go_simp; try with_reducible rfl
        simp only [Act.put, List.setIfInBounds_toArray, List.set_cons_zero, List.set_cons_succ]
        refine heldDone (by kernel_rfl) ?_ _
        have HO5 := Lib.hid (own_base hown5 (base' := w.heap.size) hB2.size)
        have HB5 : Hid (Below w.heap.size w w5) := Lib.hid (hB2.trans (hB5.mono hB2.size))
        obtain ⟨g5, cap5, hv5, _, _⟩ := hown5.form (by omega)
        injection hv5 with hv5 hn5 hc5
        subst hv5
        subst hc5
        have hcp5 : (l2.length : Int) + 1 ≤ (c5 : Int) := by have := (EntsAt.of_own (l := l2 ++ [e]) (base := w2.heap.size) (w := w5) (A := some ⟨g5, 0, none⟩) (c := c5) (by rw [show (l2 ++ [e]).length = l2.length + 1 by simp, List.flatMap_append]; simpa [rentCells] using hown5)).2.1; simp at this; omega
        clear hown5 hg5 hb5 hB5 hn5
        by_cases hs : sz < (l2.length : Int) + 1
        · have HP := Lib.hid (rput_less HL2.out hs HO5.out HB5.out)
          by_cases hc1 : c5 = 1
          · subst hc1
            simp only [if_true] at HP
            go_wp2
            refine bodyPost_ret (results_tmp rfl _ _ _) rfl ?_
            exact HP.out
          · rw [if_neg hc1] at HP
            go_wp2
            refine bodyPost_ret (results_tmp rfl _ _ _) rfl ?_
            exact HP.out
        · have HP := Lib.hid (rput_all HL2.out hs HO5.out HB5.out)
          go_wp2
          refine bodyPost_ret (results_tmp rfl _ _ _) rfl ?_
          exact HP.out
      · refine heldOp 4 (by simp only [List.getElem?_toArray, List.getElem?_cons_succ, List.getElem?_cons_zero]; rfl) (fun K hK => ?_)
        go_simp
        refine hK.out _ _ ?_ (fun hHeld => ?_)
        · exact ⟨(Below.cell (p := ⟨w.heap.size, 0, none⟩) (by repeat (first | exact Below.refl _ _ | exact hB4 | exact hB5 | refine Below.alloc ?_ (by first | (simp; done) | (have := hB4.size; simp; omega) | (have := hB4.size; omega)) _ | refine Below.drew ?_)) hbl).trans b0, (Below.cell (p := ⟨w.heap.size, 1, none⟩) (by repeat (first | exact Below.refl _ _ | exact hB4 | exact hB5 | refine Below.alloc ?_ (by first | (simp; done) | (have := hB4.size; simp; omega) | (have := hB4.size; omega)) _ | refine Below.drew ?_)) hbl).trans b1, (Below.cell (p := ⟨w.heap.size, 2, none⟩) (by repeat (first | exact Below.refl _ _ | exact hB4 | exact hB5 | refine Below.alloc ?_ (by first | (simp; done) | (have := hB4.size; simp; omega) | (have := hB4.size; omega)) _ | refine Below.drew ?_)) hbl).trans b2⟩
        clear hK K
        (try simp only [Act.put, List.setIfInBounds_toArray, List.set_cons_zero, List.set_cons_succ])
        refine heldLaw 2 (by simp only [List.getElem?_toArray, List.getElem?_cons_succ, List.getElem?_cons_zero]; rfl) (by kernel_rfl) (by rfl) (fun K hK => ?_)
        refine wp_append_to _ (.tmp 18) (.tmp 19) _ rfl w2.heap.size 41 (.agg #[.string ByteArray.empty, .string ByteArray.empty, .slice none 0 0]) 3 56 Try.underlying37 rent_info rfl (by omega) (some ⟨_, 0, none⟩) 0 0 [] rfl (own_empty (by simp) (by first | exact heapN1 _ _ | exact heapN3 _ _ _ | exact heapN2 _ _ _)) A2 w2.heap.size l2.length c2 (l2.flatMap rentCells) rfl (hr2.below (by repeat (first | exact Below.refl _ _ | exact hB4 | exact hB5 | refine Below.alloc ?_ (by first | (simp; done) | (have := hB4.size; simp; omega) | (have := hB4.size; omega)) _ | refine Below.drew ?_))) HN2.out (rent_one _) l2.length (by omega) (by unfold maxLen; omega) (by omega) (by first | (simp; done) | (simp; omega)) ?_
        intro A4 c4 w4 hown4 hg4 hb4
        have hB4 : Below w2.heap.size w2 w4 := Below.trans (by repeat (first | exact Below.refl _ _ | exact hB4 | exact hB5 | refine Below.alloc ?_ (by first | (simp; done) | (have := hB4.size; simp; omega) | (have := hB4.size; omega)) _ | refine Below.drew ?_)) hb4
        simp only [List.nil_append] at hown4
        refine hK.out _ _ ?_ (fun hHeld => ?_)
        · exact ⟨(Below.cell (p := ⟨w.heap.size, 0, none⟩) (by repeat (first | exact Below.refl _ _ | exact hB4 | exact hB5 | refine Below.alloc ?_ (by first | (simp; done) | (have := hB4.size; simp; omega) | (have := hB4.size; omega)) _ | refine Below.drew ?_)) hbl).trans b0, (Below.cell (p := ⟨w.heap.size, 1, none⟩) (by repeat (first | exact Below.refl _ _ | exact hB4 | exact hB5 | refine Below.alloc ?_ (by first | (simp; done) | (have := hB4.size; simp; omega) | (have := hB4.size; omega)) _ | refine Below.drew ?_)) hbl).trans b1, (Below.cell (p := ⟨w.heap.size, 2, none⟩) (by repeat (first | exact Below.refl _ _ | exact hB4 | exact hB5 | refine Below.alloc ?_ (by first | (simp; done) | (have := hB4.size; simp; omega) | (have := hB4.size; omega)) _ | refine Below.drew ?_)) hbl).trans b2⟩
        clear hK K
        (try simp only [Act.put, List.setIfInBounds_toArray, List.set_cons_zero, List.set_cons_succ])
        refine heldLaw 5 (by simp only [List.getElem?_toArray, List.getElem?_cons_succ, List.getElem?_cons_zero]; rfl) (by kernel_rfl) (by rfl) (fun K hK => ?_)
        refine wp_append_to _ (.tmp 20) (.tmp 22) _ rfl w2.heap.size 41 (.agg #[.string ByteArray.empty, .string ByteArray.empty, .slice none 0 0]) 3 56 Try.underlying37 rent_info rfl (by omega) A4 l2.length c4 (l2.flatMap rentCells) rfl hown4 (some ⟨_, 0, none⟩) _ 1 1 [.string e.key, .string e.val, .slice e.deps.adr e.deps.l.length e.deps.cap] rfl (reads_blk (t := 41) (fr := (0, 0)) ((hg4.block _ (by first | (simp; done) | (simp; omega)) (by simp [Value.ownBlock])).trans (by first | exact heapN2 _ _ _ | exact heapN3 _ _ _)) rfl) (fun h => by cases h) (rent_one1 e) (l2.length + 1) rfl (by unfold maxLen; omega) (by omega) (by have := hB4.size; first | (simp; done) | (simp; omega) | omega) ?_
        intro A5 c5 w5 hown5 hg5 hb5
        have hB5 : Below w2.heap.size w2 w5 := Below.trans (by repeat (first | exact Below.refl _ _ | exact hB4 | exact hB5 | refine Below.alloc ?_ (by first | (simp; done) | (have := hB4.size; simp; omega) | (have := hB4.size; omega)) _ | refine Below.drew ?_)) hb5
        refine hK.out _ _ ?_ (fun hHeld => ?_)
        · exact ⟨(Below.cell (p := ⟨w.heap.size, 0, none⟩) (by repeat (first | exact Below.refl _ _ | exact hB4 | exact hB5 | refine Below.alloc ?_ (by first | (simp; done) | (have := hB4.size; simp; omega) | (have := hB4.size; omega)) _ | refine Below.drew ?_)) hbl).trans b0, (Below.cell (p := ⟨w.heap.size, 1, none⟩) (by repeat (first | exact Below.refl _ _ | exact hB4 | exact hB5 | refine Below.alloc ?_ (by first | (simp; done) | (have := hB4.size; simp; omega) | (have := hB4.size; omega)) _ | refine Below.drew ?_)) hbl).trans b1, (Below.cell (p := ⟨w.heap.size, 2, none⟩) (by repeat (first | exact Below.refl _ _ | exact hB4 | exact hB5 | refine Below.alloc ?_ (by first | (simp; done) | (have := hB4.size; simp; omega) | (have := hB4.size; omega)) _ | refine Below.drew ?_)) hbl).trans b2⟩
        clear hK K
        (try simp only [Act.put, List.setIfInBounds_toArray, List.set_cons_zero, List.set_cons_succ])
        refine heldTake 6 (v := ?_) (by simp only [List.getElem?_toArray, List.getElem?_cons_succ, List.getElem?_cons_zero]; rfl) (by kernel_rfl) (by intro _ _ _ h; exact h) (by rfl) (by assumption) ?_ ?_
        rotate_left
        · intro W hSw; (try dsimp only at hSw); go_simp; try with_reducible rfl
        simp only [Act.put, List.setIfInBounds_toArray, List.set_cons_zero, List.set_cons_succ]
        refine heldDone (by kernel_rfl) ?_ _
        have HO5 := Lib.hid (own_base hown5 (base' := w.heap.size) hB2.size)
        have HB5 : Hid (Below w.heap.size w w5) := Lib.hid (hB2.trans (hB5.mono hB2.size))
        obtain ⟨g5, cap5, hv5, _, _⟩ := hown5.form (by omega)
        injection hv5 with hv5 hn5 hc5
        subst hv5
        subst hc5
        have hcp5 : (l2.length : Int) + 1 ≤ (c5 : Int) := by have := (EntsAt.of_own (l := l2 ++ [e]) (base := w2.heap.size) (w := w5) (A := some ⟨g5, 0, none⟩) (c := c5) (by rw [show (l2 ++ [e]).length = l2.length + 1 by simp, List.flatMap_append]; simpa [rentCells] using hown5)).2.1; simp at this; omega
        clear hown5 hg5 hb5 hB5 hn5
        by_cases hs : sz < (l2.length : Int) + 1
        · have HP := Lib.hid (rput_less HL2.out hs HO5.out HB5.out)
          by_cases hc1 : c5 = 1
          · subst hc1
            simp only [if_true] at HP
            go_wp2
            refine bodyPost_ret (results_tmp rfl _ _ _) rfl ?_
            exact HP.out
          · rw [if_neg hc1] at HP
            go_wp2
            refine bodyPost_ret (results_tmp rfl _ _ _) rfl ?_
            exact HP.out
        · have HP := Lib.hid (rput_all HL2.out hs HO5.out HB5.out)
          go_wp2
          refine bodyPost_ret (results_tmp rfl _ _ _) rfl ?_
          exact HP.out
    · refine heldOp 4 (by simp only [List.getElem?_toArray, List.getElem?_cons_succ, List.getElem?_cons_zero]; rfl) (fun K hK => ?_)
      go_simp
      refine hK.out _ _ ?_ (fun hHeld => ?_)
      · exact ⟨(Below.cell (p := ⟨w.heap.size, 0, none⟩) (by repeat (first | exact Below.refl _ _ | exact hB4 | exact hB5 | refine Below.alloc ?_ (by first | (simp; done) | (have := hB4.size; simp; omega) | (have := hB4.size; omega)) _ | refine Below.drew ?_)) hbl).trans b0, (Below.cell (p := ⟨w.heap.size, 1, none⟩) (by repeat (first | exact Below.refl _ _ | exact hB4 | exact hB5 | refine Below.alloc ?_ (by first | (simp; done) | (have := hB4.size; simp; omega) | (have := hB4.size; omega)) _ | refine Below.drew ?_)) hbl).trans b1, (Below.cell (p := ⟨w.heap.size, 2, none⟩) (by repeat (first | exact Below.refl _ _ | exact hB4 | exact hB5 | refine Below.alloc ?_ (by first | (simp; done) | (have := hB4.size; simp; omega) | (have := hB4.size; omega)) _ | refine Below.drew ?_)) hbl).trans b2⟩
      clear hK K
      (try simp only [Act.put, List.setIfInBounds_toArray, List.set_cons_zero, List.set_cons_succ])
      refine heldCall 0 (by simp only [List.getElem?_toArray, List.getElem?_cons_succ, List.getElem?_cons_zero]; rfl) (by kernel_rfl) (fun K hK => ?_)
      go_simp
      refine hK.out _ _ ?_ (fun hHeld => ?_)
      · exact ⟨(Below.cell (p := ⟨w.heap.size, 0, none⟩) (by repeat (first | exact Below.refl _ _ | exact hB4 | exact hB5 | refine Below.alloc ?_ (by first | (simp; done) | (have := hB4.size; simp; omega) | (have := hB4.size; omega)) _ | refine Below.drew ?_)) hbl).trans b0, (Below.cell (p := ⟨w.heap.size, 1, none⟩) (by repeat (first | exact Below.refl _ _ | exact hB4 | exact hB5 | refine Below.alloc ?_ (by first | (simp; done) | (have := hB4.size; simp; omega) | (have := hB4.size; omega)) _ | refine Below.drew ?_)) hbl).trans b1, (Below.cell (p := ⟨w.heap.size, 2, none⟩) (by repeat (first | exact Below.refl _ _ | exact hB4 | exact hB5 | refine Below.alloc ?_ (by first | (simp; done) | (have := hB4.size; simp; omega) | (have := hB4.size; omega)) _ | refine Below.drew ?_)) hbl).trans b2⟩
      clear hK K
      (try simp only [Act.put, List.setIfInBounds_toArray, List.set_cons_zero, List.set_cons_succ])
      refine heldLaw 2 (by simp only [List.getElem?_toArray, List.getElem?_cons_succ, List.getElem?_cons_zero]; rfl) (by kernel_rfl) (by rfl) (fun K hK => ?_)
      refine wp_append_to _ (.tmp 18) (.tmp 19) _ rfl w2.heap.size 41 (.agg #[.string ByteArray.empty, .string ByteArray.empty, .slice none 0 0]) 3 56 Try.underlying37 rent_info rfl (by omega) (some ⟨_, 0, none⟩) 0 0 [] rfl (own_empty (by simp) (by first | exact heapN1 _ _ | exact heapN3 _ _ _ | exact heapN2 _ _ _)) A2 w2.heap.size l2.length c2 (l2.flatMap rentCells) rfl (hr2.below (by repeat (first | exact Below.refl _ _ | exact hB4 | exact hB5 | refine Below.alloc ?_ (by first | (simp; done) | (have := hB4.size; simp; omega) | (have := hB4.size; omega)) _ | refine Below.drew ?_))) HN2.out (rent_one _) l2.length (by omega) (by unfold maxLen; omega) (by omega) (by first | (simp; done) | (simp; omega)) ?_
      intro A4 c4 w4 hown4 hg4 hb4
      have hB4 : Below w2.heap.size w2 w4 := Below.trans (by repeat (first | exact Below.refl _ _ | exact hB4 | exact hB5 | refine Below.alloc ?_ (by first | (simp; done) | (have := hB4.size; simp; omega) | (have := hB4.size; omega)) _ | refine Below.drew ?_)) hb4
      simp only [List.nil_append] at hown4
      refine hK.out _ _ ?_ (fun hHeld => ?_)
      · exact ⟨(Below.cell (p := ⟨w.heap.size, 0, none⟩) (by repeat (first | exact Below.refl _ _ | exact hB4 | exact hB5 | refine Below.alloc ?_ (by first | (simp; done) | (have := hB4.size; simp; omega) | (have := hB4.size; omega)) _ | refine Below.drew ?_)) hbl).trans b0, (Below.cell (p := ⟨w.heap.size, 1, none⟩) (by repeat (first | exact Below.refl _ _ | exact hB4 | exact hB5 | refine Below.alloc ?_ (by first | (simp; done) | (have := hB4.size; simp; omega) | (have := hB4.size; omega)) _ | refine Below.drew ?_)) hbl).trans b1, (Below.cell (p := ⟨w.heap.size, 2, none⟩) (by repeat (first | exact Below.refl _ _ | exact hB4 | exact hB5 | refine Below.alloc ?_ (by first | (simp; done) | (have := hB4.size; simp; omega) | (have := hB4.size; omega)) _ | refine Below.drew ?_)) hbl).trans b2⟩
      clear hK K
      (try simp only [Act.put, List.setIfInBounds_toArray, List.set_cons_zero, List.set_cons_succ])
      refine heldLaw 5 (by simp only [List.getElem?_toArray, List.getElem?_cons_succ, List.getElem?_cons_zero]; rfl) (by kernel_rfl) (by rfl) (fun K hK => ?_)
      refine wp_append_to _ (.tmp 20) (.tmp 22) _ rfl w2.heap.size 41 (.agg #[.string ByteArray.empty, .string ByteArray.empty, .slice none 0 0]) 3 56 Try.underlying37 rent_info rfl (by omega) A4 l2.length c4 (l2.flatMap rentCells) rfl hown4 (some ⟨_, 0, none⟩) _ 1 1 [.string e.key, .string e.val, .slice e.deps.adr e.deps.l.length e.deps.cap] rfl (reads_blk (t := 41) (fr := (0, 0)) ((hg4.block _ (by first | (simp; done) | (simp; omega)) (by simp [Value.ownBlock])).trans (by first | exact heapN2 _ _ _ | exact heapN3 _ _ _)) rfl) (fun h => by cases h) (rent_one1 e) (l2.length + 1) rfl (by unfold maxLen; omega) (by omega) (by have := hB4.size; first | (simp; done) | (simp; omega) | omega) ?_
      intro A5 c5 w5 hown5 hg5 hb5
      have hB5 : Below w2.heap.size w2 w5 := Below.trans (by repeat (first | exact Below.refl _ _ | exact hB4 | exact hB5 | refine Below.alloc ?_ (by first | (simp; done) | (have := hB4.size; simp; omega) | (have := hB4.size; omega)) _ | refine Below.drew ?_)) hb5
      refine hK.out _ _ ?_ (fun hHeld => ?_)
      · exact ⟨(Below.cell (p := ⟨w.heap.size, 0, none⟩) (by repeat (first | exact Below.refl _ _ | exact hB4 | exact hB5 | refine Below.alloc ?_ (by first | (simp; done) | (have := hB4.size; simp; omega) | (have := hB4.size; omega)) _ | refine Below.drew ?_)) hbl).trans b0, (Below.cell (p := ⟨w.heap.size, 1, none⟩) (by repeat (first | exact Below.refl _ _ | exact hB4 | exact hB5 | refine Below.alloc ?_ (by first | (simp; done) | (have := hB4.size; simp; omega) | (have := hB4.size; omega)) _ | refine Below.drew ?_)) hbl).trans b1, (Below.cell (p := ⟨w.heap.size, 2, none⟩) (by repeat (first | exact Below.refl _ _ | exact hB4 | exact hB5 | refine Below.alloc ?_ (by first | (simp; done) | (have := hB4.size; simp; omega) | (have := hB4.size; omega)) _ | refine Below.drew ?_)) hbl).trans b2⟩
      clear hK K
      (try simp only [Act.put, List.setIfInBounds_toArray, List.set_cons_zero, List.set_cons_succ])
      refine heldTake 6 (v := ?_) (by simp only [List.getElem?_toArray, List.getElem?_cons_succ, List.getElem?_cons_zero]; rfl) (by kernel_rfl) (by intro _ _ _ h; exact h) (by rfl) (by assumption) ?_ ?_
      rotate_left
      · intro W hSw; (try dsimp only at hSw); go_simp; try with_reducible rfl
      simp only [Act.put, List.setIfInBounds_toArray, List.set_cons_zero, List.set_cons_succ]
      refine heldDone (by kernel_rfl) ?_ _
      have HO5 := Lib.hid (own_base hown5 (base' := w.heap.size) hB2.size)
      have HB5 : Hid (Below w.heap.size w w5) := Lib.hid (hB2.trans (hB5.mono hB2.size))
      obtain ⟨g5, cap5, hv5, _, _⟩ := hown5.form (by omega)
      injection hv5 with hv5 hn5 hc5
      subst hv5
      subst hc5
      have hcp5 : (l2.length : Int) + 1 ≤ (c5 : Int) := by have := (EntsAt.of_own (l := l2 ++ [e]) (base := w2.heap.size) (w := w5) (A := some ⟨g5, 0, none⟩) (c := c5) (by rw [show (l2 ++ [e]).length = l2.length + 1 by simp, List.flatMap_append]; simpa [rentCells] using hown5)).2.1; simp at this; omega
      clear hown5 hg5 hb5 hB5 hn5
      by_cases hs : sz < (l2.length : Int) + 1
      · have HP := Lib.hid (rput_less HL2.out hs HO5.out HB5.out)
        by_cases hc1 : c5 = 1
        · subst hc1
          simp only [if_true] at HP
          go_wp2
          refine bodyPost_ret (results_tmp rfl _ _ _) rfl ?_
          exact HP.out
        · rw [if_neg hc1] at HP
          go_wp2
          refine bodyPost_ret (results_tmp rfl _ _ _) rfl ?_
          exact HP.out
      · have HP := Lib.hid (rput_all HL2.out hs HO5.out HB5.out)
        go_wp2
        refine bodyPost_ret (results_tmp rfl _ _ _) rfl ?_
        exact HP.out

end Go.Proofs.Ytjfknojkiiileaa
