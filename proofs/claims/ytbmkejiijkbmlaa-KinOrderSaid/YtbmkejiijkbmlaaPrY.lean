/- Plain law and walk of KinAsked. -/
import Derived.Test.YtbmkejiijkbmlaaPrX
namespace Go.Proofs.Ytbmkejiijkbmlaa
open Go.ChangeShapes Go.WideShapes Go.ChangeAt Go.RowKit Go.Shelf Go.Lib Go.Sort Go.Proofs
set_option linter.unusedVariables false
set_option linter.unusedSimpArgs false

theorem eqlIn_ratio (dp : Nat) (a b c d : Int) (w : World) : (Op.equalIn (dp + 2) 28 (.agg #[.int .i64 a, .int .i64 b]) (.agg #[.int .i64 c, .int .i64 d])).run Try.prog w = .ok (a == c && b == d) w := by
  have hS : Try.prog.underlying 28 = some (.struct (Try.prog.fieldsOf 28)) := by kernel_rfl
  have hp : Try.prog.stoodInHeld 28 = false := by kernel_rfl
  have p0 := fun (v : Value) (xs : Array Value) (h : xs[0]? = some v) => run_part_plain (P := Try.prog) (w := w) (e := 2) (by kernel_rfl) h
  have p1 := fun (v : Value) (xs : Array Value) (h : xs[1]? = some v) => run_part_plain (P := Try.prog) (w := w) (e := 2) (by kernel_rfl) h
  have i := fun (d : Nat) (a b : Int) => run_equalIn_int (P := Try.prog) w d 2 .i64 .i64 a b Try.underlying2
  rw [run_equalIn_agg w (dp + 1) _ _ _ hS hp]
  simp only [Program.fieldsOf, Try.underlying28, Op.eqFields]
  cases h1 : a == c <;> cases h2 : b == d <;> simp [Op.eqFields, p0, p1, i, h1, h2, Result.andThen]
theorem eql_near (k l : ByteArray) (a b c d : Int) (w : World) : (binOp .eql 45 (.agg #[.string k, .int .i64 a, .int .i64 b]) (.agg #[.string l, .int .i64 c, .int .i64 d])).run Try.prog w = .ok (.bool (k.toList == l.toList && (a == c && b == d))) w := by
  have hS : Try.prog.underlying 45 = some (.struct (Try.prog.fieldsOf 45)) := by kernel_rfl
  have hp : Try.prog.stoodInHeld 45 = false := by kernel_rfl
  have p0 := fun (v : Value) (xs : Array Value) (h : xs[0]? = some v) => run_part_plain (P := Try.prog) (w := w) (e := 9) (by kernel_rfl) h
  have j := fun (d : Nat) (a b : ByteArray) => run_equalIn_string (P := Try.prog) w d 9 a b Try.underlying9
  have q := fun (k : ByteArray) (a b : Int) => (show (part 28 (#[.string k, .int .i64 a, .int .i64 b] : Array Value) 1).run Try.prog w = .ok (.agg #[.int .i64 a, .int .i64 b]) w by kernel_rfl)
  have r := fun (a b c d : Int) => eqlIn_ratio 9997 a b c d w
  rw [run_eql_struct, run_equalIn_agg w 9999 _ _ _ hS hp]
  simp only [Program.fieldsOf, Try.underlying45, Op.eqFields]
  cases h0 : k.toList == l.toList <;> cases h1 : a == c <;> cases h2 : b == d <;> simp [Op.eqFields, p0, q, r, j, h0, h1, h2, Result.andThen]

def nob : ByteArray := ⟨#[110, 111, 98, 111, 100, 121, 32, 107, 110, 111, 119, 115, 32, 105, 116]⟩
/-- Of whom nobody knows nothing is told. -/
theorem nob_cnt {L : List (List ByteArray)} {y : ByteArray} (h : ∀ s ∈ L, y ∉ s) (x : ByteArray) : cnt2 L y x = 0 ∧ cnt2 L x y = 0 := by
  unfold cnt2
  constructor
  · have : L.countP (fun s => decide (y ∈ s ∧ x ∈ s)) = 0 := List.countP_eq_zero.2 (fun s hs => by simp [h s hs])
    omega
  · have : L.countP (fun s => decide (x ∈ s ∧ y ∈ s)) = 0 := List.countP_eq_zero.2 (fun s hs => by simp [h s hs])
    omega
theorem ThingsOf.ext {l l' T T' : List ByteArray} (h : ThingsOf l T) (h' : ThingsOf l' T') (p : ByteArray → Bool) (hp : ∀ x, p x = true → (x ∈ l ↔ x ∈ l')) : T.filter p = T'.filter p := by
  refine pairwise_ext sLt (fun x y h => sLt_asymm h) (h.1.sublist List.filter_sublist) (h'.1.sublist List.filter_sublist) (fun x => ?_)
  rw [List.mem_filter, List.mem_filter, h.2, h'.2]
  constructor
  · rintro ⟨h1, h2⟩; exact ⟨(hp x h2).1 h1, h2⟩
  · rintro ⟨h1, h2⟩; exact ⟨(hp x h2).2 h1, h2⟩
/-- What is asked for beside, and isn't known, plays no part. -/
theorem asked_plain {L : List (List ByteArray)} {y : ByteArray} (hy : ∀ s ∈ L, y ∉ s) {items other T T' : List ByteArray} (h : ThingsOf items T) (h' : ThingsOf other T') (ho : ∀ x, x ≠ y → (x ∈ items ↔ x ∈ other)) {floor : Int} {ms ms' : List NearV} (hm : AmongOf L T floor ms) (hm' : AmongOf L T' floor ms') : ms = ms' := by
  have hno : ∀ T a x, a = y ∨ x = y → ¬ Told L T floor a x := by
    rintro T a x hx ⟨-, h2, -⟩
    unfold pairF at h2
    rcases hx with rfl | rfl
    · rw [(nob_cnt hy x).1] at h2; split at h2 <;> omega
    · rw [(nob_cnt hy a).2] at h2; split at h2 <;> omega
  have hT : ∀ a x, Told L T floor a x ↔ Told L T' floor a x := fun a x => by
    by_cases e : x = y
    · exact ⟨fun ht => absurd ht (hno T a x (.inr e)), fun ht => absurd ht (hno T' a x (.inr e))⟩
    · unfold Told
      rw [h.2, h'.2, ho x e]
  have hb : ∀ x, bestF L T floor T x = bestF L T' floor T' x := fun x => by
    have p1 := bestF_drop (L := L) (T := T) (floor := floor) (done := T) (x := x) (fun a => decide (a ≠ y)) T' (fun a _ hp => hno T a x (.inl (by simpa using hp))) (fun a _ _ => hT a x)
    have p2 := bestF_drop (L := L) (T := T') (floor := floor) (done := T') (x := x) (fun a => decide (a ≠ y)) T' (fun a _ hp => hno T' a x (.inl (by simpa using hp))) (fun a _ _ => Iff.rfl)
    rw [p1, p2, h.ext h' (fun a => decide (a ≠ y)) (fun x hx => ho x (by simpa using hx))]
  exact pairwise_ext nearLt nearLt_asymm hm.1 hm'.1 (fun r => by rw [hm.2, hm'.2, hb])

/-- The row of those that are left to be asked for, from the last on. -/
structure OthersOf (items xs : List ByteArray) (k : Nat) : Prop where
  mem : ∀ x, x ≠ nob → (x ∈ xs ↔ x ∈ items.drop k)
  size : ∀ x ∈ xs, x.size ≤ maxLen
theorem OthersOf.step {items xs : List ByteArray} {k : Nat} (h : OthersOf items xs (k + 1)) (hk : k < items.length) (hs : items[k].size ≤ maxLen) : OthersOf items (xs ++ [items[k], items[k], nob]) k := by
  refine ⟨fun x hx => ?_, fun x hx => ?_⟩
  · rw [List.drop_eq_getElem_cons hk, List.mem_append, h.mem x hx, List.mem_cons]
    simp only [List.mem_cons, List.not_mem_nil, or_false]
    constructor
    · rintro (h1 | h1 | h1 | h1)
      · exact .inr h1
      · exact .inl h1
      · exact .inl h1
      · exact absurd h1 hx
    · rintro (h1 | h1)
      · exact .inr (.inl h1)
      · exact .inl h1
  · rcases List.mem_append.1 hx with hx | hx
    · exact h.size x hx
    · simp only [List.mem_cons, List.not_mem_nil, or_false] at hx
      rcases hx with rfl | rfl | rfl
      · exact hs
      · exact hs
      · unfold maxLen; decide

theorem flat_le : ∀ {l : List SessD}, (∀ s ∈ l, (s.l.length : Int) ≤ 20) → ((itemsOf l).flatten.length : Int) ≤ 20 * l.length
  | [], _ => by simp [itemsOf]
  | s :: l, h => by
    have ih := flat_le (l := l) (fun t ht => h t (by simp [ht]))
    have := h s (by simp)
    unfold itemsOf at *
    simp only [List.map_cons, List.flatten_cons, List.length_append, List.length_cons]
    omega
theorem dec_i (k : Nat) (h : (k : Int) ≤ 100) : Value.int .i64 (wrap64 ((k : Int) - 1)) = .int .i64 ((k : Int) - 1) := by
  have hw : wrap64 ((k : Int) - 1) = (k : Int) - 1 := by unfold wrap64; omega
  rw [hw]

set_option maxRecDepth 20000 in
set_option maxHeartbeats 8000000 in
theorem kasked_walk (A : Option Addr) (c : Nat) (l : List SessD) (A2 : Option Addr) (c2 : Nat) (items : List ByteArray) (n floor : Int) (w : World) (hl : SessAt w w.heap.size A l) (hit : StrsAt w w.heap.size A2 items) (hlen : (l.length : Int) ≤ 9223372036854775807) (hleni : (items.length : Int) ≤ 9223372036854775807) (hn : n ≤ 9223372036854775807) :
    Calls Try.prog 7 #[.slice A l.length c, .slice A2 items.length c2, .int .i64 n, .int .i64 floor] w fun e w' => e = .returned (.bool true) ∧ Below w.heap.size w w' := by
  have HL := Lib.hid hl
  have HI := Lib.hid hit
  clear hl hit
  go_enter Try.func7, Try.ntmps7
  go_wp2_with fail
  refine Calls.mono (lives18_any w) ?_
  rintro e w1 ⟨rfl, hb1⟩
  go_wp2_with fail
  refine Calls.mono (few_any A c w.heap.size l w1 (HL.out.below hb1) hb1.size hlen) ?_
  rintro e w2 ⟨fw, rfl, hfew, hb2⟩
  have hb12 := hb1.trans (hb2.mono hb1.size)
  have HFEW := Lib.hid hfew
  clear hfew
  cases fw with
  | false =>
    go_wp2
    go_ret
    exact ⟨rfl, hb12⟩
  | true =>
    obtain ⟨f1, f2⟩ := HFEW.out rfl
    by_cases h10 : (10 : Int) < (items.length : Int)
    · go_wp2
      go_ret
      exact ⟨rfl, hb12⟩
    · have HF2 := Lib.hid f2
      clear f2 HFEW
      go_wp2_with fail
      refine Calls.mono (pof_any A c w.heap.size l w2 (HL.out.below hb12) hb12.size (by omega) (fun s hs => by have := (HF2.out s hs).1; omega)) ?_
      rintro e w3 ⟨pb, F, rfl, hO, hF, hb3⟩
      have hb13 := hb12.trans (hb3.mono hb12.size)
      have HP := Lib.hid hO.rd
      clear hO hF
      go_wp2_with fail
      go_loopg [10, 11] items.length (fun rest s i wr => ∃ (k : Nat) (A3 : Option Addr) (c3 : Nat) (xs : List ByteArray), i = .int .i64 ((k : Int) - 1) ∧ Hid (k = rest) ∧ Hid (k ≤ items.length) ∧ s = .slice A3 xs.length c3 ∧ Hid (OthersOf items xs k) ∧ Hid (wr.ownsRow w3.heap.size 9 1 (.slice A3 xs.length c3) xs.length (xs.map Value.string)) ∧ Hid (Below w3.heap.size w3 wr) ∧ Hid (xs.length + 3 * k = 3 * items.length))
      case atStart =>
        have hw : wrap64 ((items.length : Int) - 1) = (items.length : Int) - 1 := by unfold wrap64; omega
        exact ⟨items.length, none, 0, [], by first | rfl | rw [hw], Lib.hid rfl, Lib.hid (Nat.le_refl _), rfl, Lib.hid ⟨fun x hx => by simp, by simp⟩, Lib.hid (World.ownsRow_nil _ _ _ _), Lib.hid (Below.refl _ _), Lib.hid (by simp)⟩
      case round =>
        obtain ⟨k, A3, c3, xs, hi, HK, HKL, rfl, HX, HOW, HB, HLX⟩ := hrel
        cases k with
        | zero =>
          obtain rfl : _ = Value.int .i64 (-1) := hi
          have hxl : (xs.length : Int) ≤ 30 := by have := HLX.out; omega
          obtain ⟨w4, rfl⟩ : ∃ w4 : World, w4 = wr := ⟨_, rfl⟩
          have hb14 : Below w.heap.size w w4 := hb13.trans (HB.out.mono hb13.size)
          have hSX := StrsAt.of_own HOW.out HX.out.size
          have HSX := Lib.hid hSX
          have HP4 := Lib.hid ((PRd.own pb _).below HP.out HB.out)
          clear hSX HP HOW HB
          have hlS : ((itemsOf l).length : Int) ≤ 41 := by unfold itemsOf; rw [List.length_map]; omega
          have hlF : ((itemsOf l).flatten.length : Int) ≤ 820 := by have := flat_le (l := l) (fun s hs => (HF2.out s hs).1); omega
          have HXM : Hid (∀ x, x ≠ nob → (x ∈ items ↔ x ∈ xs)) := Lib.hid (fun x hx => by have := HX.out.mem x hx; rw [List.drop_zero] at this; exact this.symm)
          clear HX HLX HK HKL
          go_wp2_with fail
          (try go_frame)
          go_loopg [12] l.length (fun rest i wr => ∃ k : Nat, i = .int .i64 k ∧ Hid (k + rest = l.length) ∧ Hid (∀ s ∈ l.take k, nob ∉ s.l) ∧ Hid (Below w4.heap.size w4 wr))
          case atStart => exact ⟨0, rfl, Lib.hid (by simp), Lib.hid (by simp), Lib.hid (Below.refl _ _)⟩
          case round =>
            obtain ⟨k, rfl, HK, HN, HB⟩ := hrel
            have hbw : Below w.heap.size w wr := hb14.trans (HB.out.mono hb14.size)
            by_cases hk : (k : Int) < (l.length : Int)
            · have hkl : k < l.length := by omega
              obtain ⟨b0, o, rfl, hbl, c1, c2', c3', c4, hok⟩ := (HL.out.below hbw).one hkl
              have hil : (l[k].l.length : Int) ≤ 20 := (HF2.out _ (List.getElem_mem hkl)).1
              have q5 := has_any l[k] nob w.heap.size wr hok hbw.size (by omega)
              have hsn : nob ∉ l[k].l → ∀ s ∈ l.take (k + 1), nob ∉ s.l := fun hno s hs => by
                rw [List.take_succ_eq_append_getElem hkl] at hs
                rcases List.mem_append.1 hs with hs | hs
                · exact HN.out s hs
                · simp at hs; subst hs; exact hno
              generalize l[k] = x at *
              obtain ⟨who, fr, to, xa, xc, xl⟩ := x
              simp only at c1 c2' c3' c4 q5 hsn
              unfold sessCells at q5
              obtain ⟨ub, hub⟩ : ∃ ub, ub = decide (nob ∈ xl) := ⟨_, rfl⟩
              rw [← hub] at q5
              unfold nob at q5
              have HSN := Lib.hid hsn
              have HUB := Lib.hid hub
              have Q5 := Lib.hid q5
              clear q5 hub hsn hok
              go_wp2_with fail
              refine Calls.mono Q5.out ?_
              rintro e w5 ⟨rfl, hb5⟩
              have hb45 : Below w4.heap.size w4 w5 := HB.out.trans (hb5.mono HB.out.size)
              have hbw5 : Below w.heap.size w w5 := hbw.trans (hb5.mono hbw.size)
              have HB5 := Lib.hid hb45
              clear hb5 hb45 Q5 c1 c2' c3' c4
              cases ub with
              | true =>
                go_wp2
                go_ret
                exact ⟨rfl, hbw5⟩
              | false =>
                have HNN := Lib.hid (HSN.out (by have := HUB.out; simpa using this.symm))
                go_wp2
                go_roundg (gk - 1)
                case measure => have := HK.out; omega
                case rel => exact ⟨k + 1, by go_num, Lib.hid (by have := HK.out; omega), HNN, HB5⟩
            · have hke : k = l.length := by have := HK.out; omega
              have hnn := HN.out
              rw [hke, List.take_length] at hnn
              have HNB : Hid (∀ s ∈ itemsOf l, nob ∉ s) := Lib.hid (fun s hs => by
                unfold itemsOf at hs
                obtain ⟨t, ht, rfl⟩ := List.mem_map.1 hs
                exact hnn t ht)
              obtain ⟨w5, rfl⟩ : ∃ w5 : World, w5 = wr := ⟨_, rfl⟩
              have hli : (items.length : Int) ≤ 1000 := by omega
              have q1 := among_any pb F (itemsOf l) A2 c2 w.heap.size items n floor w5 ((PRd.own pb _).below HP4.out HB.out) (HI.out.below hbw) hbw.size hli (by omega) (by omega) hn
              have q2 := fun W (hb : Below w5.heap.size w5 W) => among_any pb F (itemsOf l) A3 c3 w4.heap.size xs n floor W ((PRd.own pb _).below HP4.out (HB.out.trans (hb.mono HB.out.size))) (HSX.out.below (HB.out.trans (hb.mono HB.out.size))) (by have := HB.out.size; have := hb.size; omega) (by omega) (by omega) (by omega) hn
              have Q1 := Lib.hid q1
              have Q2 := Lib.hid q2
              clear q1 q2 hnn HN HK hli
              go_wp2_with fail
              refine Calls.mono Q1.out ?_
              rintro e w6 ⟨A6, c6, T, ms, rfl, hT, hms, ho6, hb6⟩
              have HT := Lib.hid (And.intro hT hms)
              have HO6 := Lib.hid ho6
              clear hT hms ho6
              go_wp2_with fail
              refine Calls.mono (Q2.out w6 hb6) ?_
              rintro e w7 ⟨A7, c7, T', ms', rfl, hT', hms', ho7, hb7⟩
              obtain rfl : ms = ms' := asked_plain HNB.out HT.out.1 hT' HXM.out HT.out.2 hms'
              have hbf : Below w.heap.size w w7 := hbw.trans ((hb6.trans (hb7.mono hb6.size)).mono hbw.size)
              obtain ⟨ys, hys⟩ : ∃ ys, ys = ms.take (topN n ms.length) := ⟨_, rfl⟩
              have hyl : topN n ms.length = ys.length := by rw [hys, List.length_take]; have := topN_le n ms.length; omega
              have hr6 := (Reads.of_own HO6.out).below hb7
              have hr7 := Reads.of_own ho7
              rw [← hys, hyl] at hr6 hr7
              have HR6 := Lib.hid hr6
              have HR7 := Lib.hid hr7
              have hyb : (ys.length : Int) ≤ 820 := by
                have h1 := HT.out.2.len
                have h2 : ys.length ≤ ms.length := by rw [← hyl]; exact topN_le _ _
                omega
              have HZ7 := Lib.hid hb7.size
              rw [hyl]
              clear hT' hms' ho7 hr6 hr7 HO6 hys hyl Q1 Q2 HXM HT HNB hb6 hb7
              go_wp2_with fail
              (try go_frame)
              go_loopg [15] ys.length (fun rest i wr => ∃ k : Nat, i = .int .i64 k ∧ Hid (k + rest = ys.length) ∧ Hid (Below w7.heap.size w7 wr))
              case atStart => exact ⟨0, rfl, Lib.hid (by simp), Lib.hid (Below.refl _ _)⟩
              case round =>
                obtain ⟨j, rfl, HJ, HBJ⟩ := hrel
                have hbj : Below w.heap.size w wr := hbf.trans (HBJ.out.mono hbf.size)
                by_cases hj : (j : Int) < (ys.length : Int)
                · have hjl : j < ys.length := by omega
                  obtain ⟨p6, o6, rfl, hp6, u0, u1, u2⟩ := near_at (HR6.out.below (HBJ.out.mono HZ7.out)) hjl
                  obtain ⟨p7, o7, rfl, hp7, v0, v1, v2⟩ := near_at (HR7.out.below HBJ.out) hjl
                  have E := fun W => eql_near ys[j].item ys[j].item ys[j].num ys[j].den ys[j].num ys[j].den W
                  generalize ys[j] = y at *
                  have HKJ : Hid (Below w.heap.size w wr.drew) := Lib.hid hbj.drew
                  clear hbj
                  go_wp2_with fail
                  refine heldStart 8 (S := fun W => W.cell? ⟨p6, o6 + j * 3, none⟩ = some (.string y.item) ∧ W.cell? ⟨p6, o6 + j * 3 + 1, none⟩ = some (.int .i64 y.num) ∧ W.cell? ⟨p6, o6 + j * 3 + 2, none⟩ = some (.int .i64 y.den) ∧ W.cell? ⟨p7, o7 + j * 3, none⟩ = some (.string y.item) ∧ W.cell? ⟨p7, o7 + j * 3 + 1, none⟩ = some (.int .i64 y.num) ∧ W.cell? ⟨p7, o7 + j * 3 + 2, none⟩ = some (.int .i64 y.den)) (by kernel_rfl) ?_ (fun hHeld => ?_)
                  · exact ⟨u0, u1, u2, v0, v1, v2⟩
                  refine heldTake 0 (v := ?_) (by simp only [List.getElem?_toArray, List.getElem?_cons_succ, List.getElem?_cons_zero]; rfl) (by kernel_rfl) (by intro _ _ _ h; exact h) (by rfl) (by assumption) ?_ ?_
                  rotate_left
                  · intro W hSw; (try dsimp only at hSw); go_simp; try with_reducible rfl
                  simp only [Act.put, List.setIfInBounds_toArray, List.set_cons_zero, List.set_cons_succ]
                  refine heldTake 1 (v := ?_) (by simp only [List.getElem?_toArray, List.getElem?_cons_succ, List.getElem?_cons_zero]; rfl) (by kernel_rfl) (by intro _ _ _ h; exact h) (by rfl) (by assumption) ?_ ?_
                  rotate_left
                  · intro W hSw; (try dsimp only at hSw); go_simp; try with_reducible rfl
                  simp only [Act.put, List.setIfInBounds_toArray, List.set_cons_zero, List.set_cons_succ]
                  refine heldTake 2 (v := ?_) (by simp only [List.getElem?_toArray, List.getElem?_cons_succ, List.getElem?_cons_zero]; rfl) (by kernel_rfl) (by intro _ _ _ h; exact h) (by rfl) (by assumption) ?_ ?_
                  rotate_left
                  · intro W hSw; (try dsimp only at hSw); go_simp; try with_reducible rfl
                  simp only [Act.put, List.setIfInBounds_toArray, List.set_cons_zero, List.set_cons_succ]
                  refine heldTake 3 (v := ?_) (by simp only [List.getElem?_toArray, List.getElem?_cons_succ, List.getElem?_cons_zero]; rfl) (by kernel_rfl) (by intro _ _ _ h; exact h) (by rfl) (by assumption) ?_ ?_
                  rotate_left
                  · intro W hSw; (try dsimp only at hSw); go_simp; try with_reducible rfl
                  simp only [Act.put, List.setIfInBounds_toArray, List.set_cons_zero, List.set_cons_succ]
                  refine heldTake 4 (v := ?_) (by simp only [List.getElem?_toArray, List.getElem?_cons_succ, List.getElem?_cons_zero]; rfl) (by kernel_rfl) (by intro _ _ _ h; exact h) (by rfl) (by assumption) ?_ ?_
                  rotate_left
                  · intro W hSw; (try dsimp only at hSw); go_simp; try with_reducible rfl
                  simp only [Act.put, List.setIfInBounds_toArray, List.set_cons_zero, List.set_cons_succ]
                  refine heldTake 5 (v := ?_) (by simp only [List.getElem?_toArray, List.getElem?_cons_succ, List.getElem?_cons_zero]; rfl) (by kernel_rfl) (by intro _ _ _ h; exact h) (by rfl) (by assumption) ?_ ?_
                  rotate_left
                  · intro W hSw; (try dsimp only at hSw); go_simp; try with_reducible rfl
                  simp only [Act.put, List.setIfInBounds_toArray, List.set_cons_zero, List.set_cons_succ]
                  refine heldTake 6 (v := ?_) (by simp only [List.getElem?_toArray, List.getElem?_cons_succ, List.getElem?_cons_zero]; rfl) (by kernel_rfl) (by intro _ _ _ h; exact h) (by rfl) (by assumption) ?_ ?_
                  rotate_left
                  · intro W hSw; (try dsimp only at hSw); go_simp; try with_reducible rfl
                  simp only [Act.put, List.setIfInBounds_toArray, List.set_cons_zero, List.set_cons_succ]
                  refine heldTake 7 (v := ?_) (by simp only [List.getElem?_toArray, List.getElem?_cons_succ, List.getElem?_cons_zero]; rfl) (by kernel_rfl) (by intro _ _ _ h; exact h) (by rfl) (by assumption) ?_ ?_
                  rotate_left
                  · intro W hSw; (try dsimp only at hSw); go_simp; try with_reducible rfl
                  simp only [Act.put, List.setIfInBounds_toArray, List.set_cons_zero, List.set_cons_succ]
                  refine heldTake 8 (v := ?_) (by simp only [List.getElem?_toArray, List.getElem?_cons_succ, List.getElem?_cons_zero]; rfl) (by kernel_rfl) (by intro _ _ _ h; exact h) (by rfl) (by assumption) ?_ ?_
                  rotate_left
                  · intro W hSw; (try dsimp only at hSw); go_simp; try with_reducible rfl
                  simp only [Act.put, List.setIfInBounds_toArray, List.set_cons_zero, List.set_cons_succ]
                  refine heldDone (by kernel_rfl) ?_ _
                  go_wp2
                  go_roundg (gk - 1)
                  case measure => have := HJ.out; omega
                  case rel => exact ⟨j + 1, by go_num, Lib.hid (by have := HJ.out; omega), Lib.hid (HBJ.out.drew)⟩
                · go_wp2
                  go_ret
                  exact ⟨rfl, hbj⟩
        | succ k =>
          have hki : ((k + 1 : Nat) : Int) - 1 = (k : Int) := by omega
          rw [hki] at hi
          subst hi
          have hkl : k < items.length := by have := HKL.out; omega
          have hb14 : Below w.heap.size w wr := hb13.trans (HB.out.mono hb13.size)
          obtain ⟨b0, o0, hA2, hbl, hcell, hs0⟩ := (HI.out.below hb14).one hkl
          have hsz := HI.out.2 _ (List.getElem_mem hkl)
          have HST := Lib.hid (HX.out.step hkl hsz)
          generalize items[k] = x at *
          have hxl : (xs.length : Int) ≤ 30 := by have := HLX.out; omega
          have hik : (k : Int) < (items.length : Int) := by omega
          have hbl' : b0 < wr.heap.size := by have := hb14.size; omega
          have hKe : Below w3.heap.size w3 wr.drew := HB.out.drew
          subst hA2
          have hKQ : wr.drew.cell? ⟨b0, o0 + k, none⟩ = some (.string x) := hcell
          have hKR : ∀ o, (wr.alloc o).drew.cell? ⟨b0, o0 + k, none⟩ = some (.string x) := fun o => (Below.cell (p := ⟨b0, o0 + k, none⟩) ((Below.refl wr.heap.size wr).alloc (Nat.le_refl _) o) hbl').trans hcell
          have hOA : ∀ o, (wr.alloc o).drew.ownsRow w3.heap.size 9 1 (.slice A3 xs.length c3) xs.length (xs.map Value.string) := fun o => (((Keeps.refl (fun _ => False) wr).alloc o).drew).own HOW.out (fun _ _ h => h)
          have hBA : ∀ o, Below w3.heap.size w3 (wr.alloc o).drew := fun o => (HB.out.alloc HB.out.size o).drew
          clear hKe
          go_wp2_with fail
          refine heldStart 11 (S := fun W => W.cell? ⟨b0, o0 + k, none⟩ = some (.string x)) (by kernel_rfl) ?_ (fun hHeld => ?_)
          · first | exact hKQ | exact hKR _ | exact hKS
          refine heldTake 0 (v := ?_) (by simp only [List.getElem?_toArray, List.getElem?_cons_succ, List.getElem?_cons_zero]; rfl) (by kernel_rfl) (by intro _ _ _ h; exact h) (by rfl) (by assumption) ?_ ?_
          rotate_left
          · intro W hSw; (try dsimp only at hSw); go_simp; try with_reducible rfl
          simp only [Act.put, List.setIfInBounds_toArray, List.set_cons_zero, List.set_cons_succ]
          refine heldTake 1 (v := ?_) (by simp only [List.getElem?_toArray, List.getElem?_cons_succ, List.getElem?_cons_zero]; rfl) (by kernel_rfl) (by intro _ _ _ h; exact h) (by rfl) (by assumption) ?_ ?_
          rotate_left
          · intro W hSw; (try dsimp only at hSw); go_simp; try with_reducible rfl
          simp only [Act.put, List.setIfInBounds_toArray, List.set_cons_zero, List.set_cons_succ]
          refine heldTake 2 (v := ?_) (by simp only [List.getElem?_toArray, List.getElem?_cons_succ, List.getElem?_cons_zero]; rfl) (by kernel_rfl) (by intro _ _ _ h; exact h) (by rfl) (by assumption) ?_ ?_
          rotate_left
          · intro W hSw; (try dsimp only at hSw); go_simp; try with_reducible rfl
          simp only [Act.put, List.setIfInBounds_toArray, List.set_cons_zero, List.set_cons_succ]
          refine heldTake 3 (v := ?_) (by simp only [List.getElem?_toArray, List.getElem?_cons_succ, List.getElem?_cons_zero]; rfl) (by kernel_rfl) (by intro _ _ _ h; exact h) (by rfl) (by assumption) ?_ ?_
          rotate_left
          · intro W hSw; (try dsimp only at hSw); go_simp; try with_reducible rfl
          simp only [Act.put, List.setIfInBounds_toArray, List.set_cons_zero, List.set_cons_succ]
          refine heldTake 4 (v := ?_) (by simp only [List.getElem?_toArray, List.getElem?_cons_succ, List.getElem?_cons_zero]; rfl) (by kernel_rfl) (by intro _ _ _ h; exact h) (by rfl) (by assumption) ?_ ?_
          rotate_left
          · intro W hSw; (try dsimp only at hSw); go_simp; try with_reducible rfl
          simp only [Act.put, List.setIfInBounds_toArray, List.set_cons_zero, List.set_cons_succ]
          refine heldTake 5 (v := ?_) (by simp only [List.getElem?_toArray, List.getElem?_cons_succ, List.getElem?_cons_zero]; rfl) (by kernel_rfl) (by intro _ _ _ h; exact h) (by rfl) (by assumption) ?_ ?_
          rotate_left
          · intro W hSw; (try dsimp only at hSw); go_simp; try with_reducible rfl
          simp only [Act.put, List.setIfInBounds_toArray, List.set_cons_zero, List.set_cons_succ]
          refine heldTake 6 (v := ?_) (by simp only [List.getElem?_toArray, List.getElem?_cons_succ, List.getElem?_cons_zero]; rfl) (by kernel_rfl) (by intro _ _ _ h; exact h) (by rfl) (by assumption) ?_ ?_
          rotate_left
          · intro W hSw; (try dsimp only at hSw); go_simp; try with_reducible rfl
          simp only [Act.put, List.setIfInBounds_toArray, List.set_cons_zero, List.set_cons_succ]
          refine heldTake 7 (v := ?_) (by simp only [List.getElem?_toArray, List.getElem?_cons_succ, List.getElem?_cons_zero]; rfl) (by kernel_rfl) (by intro _ _ _ h; exact h) (by rfl) (by assumption) ?_ ?_
          rotate_left
          · intro W hSw; (try dsimp only at hSw); go_simp; try with_reducible rfl
          simp only [Act.put, List.setIfInBounds_toArray, List.set_cons_zero, List.set_cons_succ]
          refine heldTake 8 (v := ?_) (by simp only [List.getElem?_toArray, List.getElem?_cons_succ, List.getElem?_cons_zero]; rfl) (by kernel_rfl) (by intro _ _ _ h; exact h) (by rfl) (by assumption) ?_ ?_
          rotate_left
          · intro W hSw; (try dsimp only at hSw); go_simp; try with_reducible rfl
          simp only [Act.put, List.setIfInBounds_toArray, List.set_cons_zero, List.set_cons_succ]
          refine heldCall 9 (by simp only [List.getElem?_toArray, List.getElem?_cons_succ, List.getElem?_cons_zero]; rfl) (by kernel_rfl) (fun K hK => ?_)
          go_simp
          refine hK.out _ _ ?_ (fun hHeld => ?_)
          · first | exact hKQ | exact hKR _ | exact hKS
          clear hK K
          (try simp only [Act.put, List.setIfInBounds_toArray, List.set_cons_zero, List.set_cons_succ])
          refine heldLaw 10 (by simp only [List.getElem?_toArray, List.getElem?_cons_succ, List.getElem?_cons_zero]; rfl) (by kernel_rfl) (by rfl) (fun K hK => ?_)
          refine wp_append_to _ (.tmp 37) (.tmp 46) _ rfl w3.heap.size 9 (.string ByteArray.empty) 1 16 Try.underlying32 str_infoK rfl (by omega) A3 xs.length c3 (xs.map Value.string) rfl (hOA _) (some ⟨wr.heap.size, 0, none⟩) _ 3 3 [.string x, .string x, .string nob] rfl (reads_block (n := 3) (size := 1) (xs := [.string x, .string x, .string nob]) (heapN1 wr (.cells #[.string x, .string x, .string nob] 9)) rfl rfl) (fun h => by cases h) (by intro u hu; simp at hu; rcases hu with rfl | rfl <;> rfl) (xs.length + 3) rfl (by unfold maxLen; omega) (by omega) (hBA _).size ?_
          intro A5 c5 w5 hown5 hg5 hb5
          have hB5 : Below w3.heap.size w3 w5 := (hBA _).trans hb5
          have hKS : w5.cell? ⟨b0, o0 + k, none⟩ = some (.string x) := (Below.cell (p := ⟨b0, o0 + k, none⟩) (hB5.trans (Below.refl _ _)) (by have := hb13.size; show b0 < _; omega)).trans ((Below.cell (p := ⟨b0, o0 + k, none⟩) HB.out (by have := hb13.size; show b0 < _; omega)).symm.trans hcell)
          refine hK.out _ _ ?_ (fun hHeld => ?_)
          · first | exact hKQ | exact hKR _ | exact hKS
          clear hK K
          (try simp only [Act.put, List.setIfInBounds_toArray, List.set_cons_zero, List.set_cons_succ])
          refine heldTake 11 (v := ?_) (by simp only [List.getElem?_toArray, List.getElem?_cons_succ, List.getElem?_cons_zero]; rfl) (by kernel_rfl) (by intro _ _ _ h; exact h) (by rfl) (by assumption) ?_ ?_
          rotate_left
          · intro W hSw; (try dsimp only at hSw); go_simp; try with_reducible rfl
          simp only [Act.put, List.setIfInBounds_toArray, List.set_cons_zero, List.set_cons_succ]
          refine heldDone (by kernel_rfl) ?_ _
          have HO5 : Hid (w5.ownsRow w3.heap.size 9 1 (.slice A5 (xs ++ [x, x, nob]).length c5) (xs ++ [x, x, nob]).length ((xs ++ [x, x, nob]).map Value.string)) := Lib.hid (by
            rw [List.map_append, List.length_append]
            exact hown5)
          have HB5 := Lib.hid hB5
          clear hown5 hg5 hb5 hB5
          go_wp2
          go_roundg k
          case measure => have := HK.out; omega
          case rel => exact ⟨k, A5, c5, xs ++ [x, x, nob], by first | rfl | exact dec_i k (by omega), Lib.hid rfl, Lib.hid (by omega), by rw [List.length_append]; rfl, HST, HO5, HB5, Lib.hid (by have := HLX.out; simp only [List.length_append, List.length_cons, List.length_nil]; omega)⟩
end Go.Proofs.Ytbmkejiijkbmlaa
