/- Contracts of parses and begun. -/
import Derived.Test.YtaollcpoibgblaaDoorTlG
import Derived.Test.YtaollcpoibgblaaDoorTlHs
namespace Go.Proofs.YtaollcpoibgblaaDoor
open Go.ChangeShapes Go.WideShapes Go.ChangeAt Go.RowKit
set_option linter.unusedVariables false
set_option linter.unusedSimpArgs false

theorem results_tctt {P : Program} {fn : Func} {a p u v : Tmp} {ty : TypeId} (h : fn.results = #[.tmp a, .cell p ty, .tmp u, .tmp v]) (tmps : Array Value) (w : World) (g : Nat) (t : TypeId) (cs : Array Value) (fr : Nat × Nat) (d : TypeDesc)
    (hp : tmps.getD p undef = .pointer (some ⟨g, 0, none⟩)) (hg : w.heap[g]? = some (.cells cs t fr))
    (hu : P.underlying ty = some d) (hd : (match d with | .struct _ | .array _ _ => true | _ => false) = true) (hi : (P.info? ty).map (·.size) = some cs.size) :
    (results fn tmps).run P w = .ok (.tuple #[tmps.getD a undef, .agg cs, tmps.getD u undef, tmps.getD v undef]) w := by
  have hp' : tmps[p]?.getD undef = .pointer (some ⟨g, 0, none⟩) := by simpa using hp
  simp [results, h, hp', asAddr, run_loadVar_row w g t ty cs fr d hg hu hd hi]

theorem field_end (cs : List Value) (a b : Value) (h : cs.length = 22) : (cs ++ [a, b]).toArray[23]? = some b := by
  rw [List.getElem?_toArray, List.getElem?_append_right (by omega), h]; rfl

set_option maxRecDepth 20000 in
set_option maxHeartbeats 4000000 in
theorem parses_any (w : World) (hk : KdAt w) : Calls Tryd.prog 5 #[] w fun e w' => e = .returned (.bool true) ∧ Below w.heap.size w w' := by
  have HP := Lib.hid (parse_any none 0 [] w ⟨Reads.none_, by simp⟩ hk (by simp))
  clear hk
  go_enter Tryd.func5, Tryd.ntmps5
  go_wp2_with fail
  refine HP.out.mono ?_
  rintro e w2 ⟨cs, A, c, L, en, rfl, hcl, -, -, -, -, h0, hb⟩
  obtain rfl := h0 rfl
  obtain ⟨x0, x1, x2, x3, x4, x5, x6, x7, x8, x9, y0, y1, y2, y3, y4, y5, y6, y7, y8, y9, z0, z1, rfl⟩ : ∃ x0 x1 x2 x3 x4 x5 x6 x7 x8 x9 y0 y1 y2 y3 y4 y5 y6 y7 y8 y9 z0 z1, cs = [x0, x1, x2, x3, x4, x5, x6, x7, x8, x9, y0, y1, y2, y3, y4, y5, y6, y7, y8, y9, z0, z1] := by
    match cs, hcl with
    | [x0, x1, x2, x3, x4, x5, x6, x7, x8, x9, y0, y1, y2, y3, y4, y5, y6, y7, y8, y9, z0, z1], _ => exact ⟨_, _, _, _, _, _, _, _, _, _, _, _, _, _, _, _, _, _, _, _, _, _, rfl⟩
  have HB := Lib.hid hb
  clear hb hcl
  have hfd : ∀ W, (Instr.field 55 (.agg #[x0, x1, x2, x3, x4, x5, x6, x7, x8, x9, y0, y1, y2, y3, y4, y5, y6, y7, y8, y9, z0, z1, .slice A L.length c, .int .i64 1000]) 2).run Tryd.prog W = .ok (.int .i64 1000) W := fun W => by kernel_rfl
  simp only [List.cons_append, List.nil_append]
  go_wp2_with fail
  go_ret
  exact ⟨rfl, HB.out⟩

def BegunNew (n : Nat) (w : World) (e : Ending) (w' : World) : Prop :=
  ∃ (A : Option Addr) (c : Nat) (E : List EvV) (cs : List Value) (en : Int), e = .returned (.tuple #[.slice A E.length c, .agg cs.toArray, .int .i64 en, .bool (decide (n ≤ 300))]) ∧ cs.length = 22 ∧ (∀ u ∈ cs, u.oneCell' = true) ∧
    Reads w' w'.heap.size 8 A E.length (evsCells E) ∧ EvsOk E ∧ E.length ≤ 60 ∧ Below w.heap.size w w' ∧ (A = none → c = 0)
/-- The range over the steps. -/
def Bg1 (W0 : World) (tb Bs : Nat) (L : List StV) (rest : Nat) (s7 s19 : Value) (wr : World) : Prop :=
  ∃ (k nE : Nat) (A : Option Addr) (c : Nat), s19 = .int .i64 k ∧ k + rest = L.length ∧ s7 = .slice A nE c ∧ Hid (nE = (toldOf (L.take k)).length) ∧ Hid (wr.ownsRow Bs 51 8 (.slice A nE c) nE (evsCells (toldOf (L.take k)))) ∧ Hid (Below Bs W0 wr) ∧ Hid (nE ≤ k)
theorem toldOf_take {L : List StV} {k : Nat} (h : k < L.length) : toldOf (L.take (k + 1)) = toldOf (L.take k) ++ (if L[k].what = 0 then [L[k].ev] else []) := by
  rw [List.take_succ_eq_append_getElem h, toldOf_snoc]
theorem st_at {L : List StV} {k : Nat} (h : k < L.length) (j : Nat) (hj : j < 13) : (stsCells L)[k * 13 + j]? = (stCells L[k])[j]? := by
  unfold stsCells
  exact flat_getE (e := stCells) (k := 13) (fun _ => rfl) L k j h hj

set_option maxRecDepth 20000 in
set_option maxHeartbeats 4000000 in
theorem begun_any (A : Option Addr) (c : Nat) (l : List Int) (w : World) (hr : U8At w w.heap.size A l) (hk : KdAt w) (hl : (l.length : Int) ≤ 9223372036854775807) :
    Calls Tryd.prog 4 #[.slice A l.length c] w (BegunNew l.length w) := by
  by_cases h3 : 300 < (l.length : Int)
  · clear hr hk
    have hd : decide (l.length ≤ 300) = false := by simp; omega
    have HD := Lib.hid hd
    clear hd
    go_enter Tryd.func4, Tryd.ntmps4
    go_wp2_with (refine wpList_store_new rfl 32 _ _ rfl _ _ _ _ (by rfl) (by rfl) (by kernel_rfl) (by rfl) (by rfl) (by simp) ?_)
    refine bodyPost_ret (results_tctt rfl _ _ _ _ _ _ _ (by rfl) (heap_alloc_new w _) Tryd.underlying32 (by rfl) (by kernel_rfl)) rfl ?_
    refine ⟨none, 0, [], [Value.int .i64 0, .int .i64 0, .int .i64 0, .int .i64 0, .int .i64 0, .int .i64 0, .int .i64 0, .int .i64 0, .int .i64 0, .int .i64 0, .int .i64 0, .int .i64 0, .int .i64 0, .int .i64 0, .int .i64 0, .int .i64 0, .int .i64 0, .int .i64 0, .int .i64 0, .string ⟨#[]⟩, .string ⟨#[]⟩, .int .u64 0], 0, ?_, ?_, ?_, Reads.none_, EvsOk.nil, by simp, (Below.refl _ w).alloc (Nat.le_refl _) _, fun _ => rfl⟩
    · rw [HD.out]; rfl
    · rfl
    · intro u hu
      simp at hu
      rcases hu with rfl | rfl | rfl <;> rfl
  · have hl3 : l.length ≤ 300 := by omega
    obtain ⟨W1, hW1⟩ : ∃ W1, W1 = w.alloc (.cells #[Value.int .i64 0, .int .i64 0, .int .i64 0, .int .i64 0, .int .i64 0, .int .i64 0, .int .i64 0, .int .i64 0, .int .i64 0, .int .i64 0, .int .i64 0, .int .i64 0, .int .i64 0, .int .i64 0, .int .i64 0, .int .i64 0, .int .i64 0, .int .i64 0, .int .i64 0, .string ⟨#[]⟩, .string ⟨#[]⟩, .int .u64 0] 32) := ⟨_, rfl⟩
    have hb1 : Below w.heap.size w W1 := by rw [hW1]; exact (Below.refl _ w).alloc (Nat.le_refl _) _
    have hrb : ∃ z : List Value, W1.heap[w.heap.size]? = some (.cells z.toArray 32 (0, 0)) ∧ z.length = 22 := ⟨_, by rw [hW1]; exact heap_alloc_new w _, rfl⟩
    have hz1 : W1.heap.size = w.heap.size + 1 := by rw [hW1]; simp
    have HPA := Lib.hid (parse_any A c l W1 ⟨(hr.1.below hb1).more hb1.size, hr.2⟩ (hk.below (hb1.mono (Nat.le_refl _) |> fun q => q)) hl3)
    have hd : decide (l.length ≤ 300) = true := by simp; omega
    have HD := Lib.hid hd
    obtain ⟨n, hn⟩ : ∃ n, n = l.length := ⟨_, rfl⟩
    rw [← hn] at h3 hl HD HPA ⊢
    have HN := Lib.hid hn
    have HB1 := Lib.hid hb1
    have HRB := Lib.hid hrb
    have HZ1 := Lib.hid hz1
    clear hr hk hd hl3 hn hb1 hrb hz1
    go_enter Tryd.func4, Tryd.ntmps4
    go_wp2_with fail
    rw [← hW1]
    clear hW1
    refine HPA.out.mono ?_
    rintro e w2 ⟨cs, A1, c1, L, en, rfl, hcl, hco, hrd, hev, hl60, -, hb2⟩
    have hone : ∀ u ∈ cs ++ [Value.slice A1 L.length c1, .int .i64 en], u.oneCell' = true := by
      intro u hu
      rcases List.mem_append.1 hu with hu | hu
      · exact hco u hu
      · simp at hu
        rcases hu with rfl | rfl <;> rfl
    have HONE := Lib.hid hone
    have HCS := Lib.hid (And.intro hcl hco)
    have HRD := Lib.hid hrd
    have HEV := Lib.hid hev
    have HB2 := Lib.hid hb2
    obtain ⟨x0, x1, x2, x3, x4, x5, x6, x7, x8, x9, y0, y1, y2, y3, y4, y5, y6, y7, y8, y9, z0, z1, rfl⟩ : ∃ x0 x1 x2 x3 x4 x5 x6 x7 x8 x9 y0 y1 y2 y3 y4 y5 y6 y7 y8 y9 z0 z1, cs = [x0, x1, x2, x3, x4, x5, x6, x7, x8, x9, y0, y1, y2, y3, y4, y5, y6, y7, y8, y9, z0, z1] := by
      match cs, hcl with
      | [x0, x1, x2, x3, x4, x5, x6, x7, x8, x9, y0, y1, y2, y3, y4, y5, y6, y7, y8, y9, z0, z1], _ => exact ⟨_, _, _, _, _, _, _, _, _, _, _, _, _, _, _, _, _, _, _, _, _, _, rfl⟩
    clear hone hcl hco hrd hev hb2
    simp only [List.cons_append, List.nil_append]
    obtain ⟨W3, hW3⟩ : ∃ W3, W3 = w2.alloc (.cells #[x0, x1, x2, x3, x4, x5, x6, x7, x8, x9, y0, y1, y2, y3, y4, y5, y6, y7, y8, y9, z0, z1, .slice A1 L.length c1, .int .i64 en] 55) := ⟨_, rfl⟩
    have hb3 : Below w2.heap.size w2 W3 := by rw [hW3]; exact (Below.refl _ w2).alloc (Nat.le_refl _) _
    have htb : W3.heap[w2.heap.size]? = some (.cells #[x0, x1, x2, x3, x4, x5, x6, x7, x8, x9, y0, y1, y2, y3, y4, y5, y6, y7, y8, y9, z0, z1, .slice A1 L.length c1, .int .i64 en] 55 (0, 0)) := by rw [hW3]; exact heap_alloc_new w2 _
    have hz3 : W3.heap.size = w2.heap.size + 1 := by rw [hW3]; simp
    have HB3 := Lib.hid hb3
    have HTB := Lib.hid htb
    have HZ3 := Lib.hid hz3
    clear hb3 htb hz3
    go_upto_region 4 with (refine wpList_store_new rfl 55 _ _ rfl _ _ _ _ (by rfl) (by rfl) (by kernel_rfl) (by rfl) (by exact List.all_eq_true.2 (fun u hu => HONE.out u hu)) (by simp) ?_)
    clear HONE
    rw [← hW3]
    clear hW3
    have t22 : W3.cell? ⟨w2.heap.size, 22, none⟩ = some (.slice A1 L.length c1) := by rw [cell_of_row W3 w2.heap.size 22 _ _ _ HTB.out]; rfl
    go_wp2_with fail
    have hlt2 : w.heap.size < w2.heap.size := by have := HB2.out.size; have := HZ1.out; omega
    have HRB3 : Hid (∃ z : List Value, W3.heap[w.heap.size]? = some (.cells z.toArray 32 (0, 0)) ∧ z.length = 22) := Lib.hid (by
      obtain ⟨z, h1, h2⟩ := HRB.out
      have hq := HB2.out.block w.heap.size (by have := HZ1.out; omega)
      exact ⟨z, ((HB3.out.block w.heap.size hlt2).trans hq).trans h1, h2⟩)
    have HW3 : Hid (Below w.heap.size w W3) := Lib.hid (by
      have q := HB1.out.trans (HB2.out.mono HB1.out.size)
      exact q.trans (HB3.out.mono q.size))
    generalize w2.heap.size = tb at *
    clear t22 HRB HB1 HZ1
    go_loopg [7, 19] L.length (Bg1 W3 tb (tb + 1) L)
    case atStart => exact ⟨0, 0, none, 0, rfl, by omega, rfl, Lib.hid rfl, Lib.hid (World.ownsRow_nil _ _ _ _), Lib.hid (Below.refl _ _), Lib.hid (Nat.le_refl _)⟩
    case round =>
      obtain ⟨k, nE, A5, c5, rfl, hk, rfl, HNE, HOW, HBW, HNK⟩ := hrel
      by_cases hkl : (k : Int) < (L.length : Int)
      · have hkn : k < L.length := by omega
        obtain ⟨b, o, rfl, hbB, hcc⟩ := HRD.out.2 (by omega)
        obtain ⟨s, hs⟩ : ∃ s, s = L[k] := ⟨_, rfl⟩
        have hrg : wr.rangeAt b (o + k * 13) [Value.int .i64 s.what, .string s.ev.src, .int .i64 s.ev.num, .int .i64 s.ev.at_, .int .i64 s.ev.kind, .string s.ev.person, .string s.ev.item, .int .i64 s.ev.value, .string s.ev.text, .string s.person, .int .i64 s.now, .int .i64 s.keep, .int .i64 s.of_] := by
          intro j v hv
          have hj : j < 13 := (List.getElem?_eq_some_iff.1 hv).1
          have h1 := st_at hkn j hj
          rw [← hs] at h1
          have h2 := hcc (k * 13 + j) v (h1.trans hv)
          rw [← Nat.add_assoc] at h2
          have h3 := (HB3.out.cell (p := ⟨b, o + k * 13 + j, none⟩) hbB).trans h2
          exact (HBW.out.cell (p := ⟨b, o + k * 13 + j, none⟩) (by have := HZ3.out; show b < tb + 1; omega)).trans h3
        have htk := toldOf_take hkn
        rw [← hs] at htk
        have HTK := Lib.hid htk
        have HRG := Lib.hid hrg
        have HBS : Hid (tb + 1 ≤ wr.heap.size) := Lib.hid (by have := HBW.out.size; have := HZ3.out; omega)
        clear hcc hrg htk hs
        obtain ⟨W5, hW5⟩ : ∃ W5, W5 = wr.alloc (.cells #[Value.int .i64 s.what, .string s.ev.src, .int .i64 s.ev.num, .int .i64 s.ev.at_, .int .i64 s.ev.kind, .string s.ev.person, .string s.ev.item, .int .i64 s.ev.value, .string s.ev.text, .string s.person, .int .i64 s.now, .int .i64 s.keep, .int .i64 s.of_] 59) := ⟨_, rfl⟩
        have hsb : W5.heap[wr.heap.size]? = some (.cells #[Value.int .i64 s.what, .string s.ev.src, .int .i64 s.ev.num, .int .i64 s.ev.at_, .int .i64 s.ev.kind, .string s.ev.person, .string s.ev.item, .int .i64 s.ev.value, .string s.ev.text, .string s.person, .int .i64 s.now, .int .i64 s.keep, .int .i64 s.of_] 59 (0, 0)) := by rw [hW5]; exact heap_alloc_new wr _
        have hb5 : Below wr.heap.size wr W5 := by rw [hW5]; exact (Below.refl _ wr).alloc (Nat.le_refl _) _
        have HSB := Lib.hid hsb
        have HB5 := Lib.hid hb5
        clear hsb hb5
        go_upto_region 8 with (first | (refine wpList_load_mid rfl _ _ rfl b (o + k * 13) (by rfl) _ _ HRG.out Tryd.underlying59 (by rfl) (by kernel_rfl) ?_) | (refine wpList_store_new rfl 59 _ _ rfl _ _ _ _ (by rfl) (by rfl) (by kernel_rfl) (by rfl) (by rfl) (by simp) ?_))
        rw [← hW5]
        clear hW5
        have d0 : W5.cell? ⟨wr.heap.size, 0, none⟩ = some (.int .i64 s.what) := by rw [cell_of_row W5 wr.heap.size 0 _ _ _ HSB.out]; rfl
        have hOW5 : W5.ownsRow (tb + 1) 51 8 (.slice A5 nE c5) nE (evsCells (toldOf (L.take k))) := (Keeps.ofBelow HB5.out (fun _ => False)).own HOW.out (fun _ _ e => e)
        have HOW5 := Lib.hid hOW5
        have HZ5 : Hid (tb + 1 ≤ W5.heap.size) := Lib.hid (Nat.le_trans HBS.out HB5.out.size)
        have HRE : Hid (W5.rangeAt wr.heap.size 1 [Value.string s.ev.src, .int .i64 s.ev.num, .int .i64 s.ev.at_, .int .i64 s.ev.kind, .string s.ev.person, .string s.ev.item, .int .i64 s.ev.value, .string s.ev.text]) := Lib.hid (by
          intro j v hv
          have hj : j < 8 := (List.getElem?_eq_some_iff.1 hv).1
          rw [cell_of_row W5 wr.heap.size (1 + j) _ _ _ HSB.out, List.getElem?_toArray, ← hv, Nat.add_comm, List.getElem?_cons_succ]
          match j, hj with
          | 0, _ => rfl
          | 1, _ => rfl
          | 2, _ => rfl
          | 3, _ => rfl
          | 4, _ => rfl
          | 5, _ => rfl
          | 6, _ => rfl
          | 7, _ => rfl)
        have hnE : nE ≤ 60 := by have := HNK.out; omega
        have HBW5 : Hid (Below (tb + 1) W3 W5) := Lib.hid (HBW.out.trans (HB5.out.mono HBS.out))
        clear hOW5 HOW HBW HB5 HSB HRG
        obtain ⟨gK, hgK⟩ : ∃ g, g = gk := ⟨_, rfl⟩
        by_cases hw0 : s.what = 0
        · have HT2 : Hid (toldOf (L.take (k + 1)) = toldOf (L.take k) ++ [s.ev]) := Lib.hid (by rw [HTK.out, if_pos hw0])
          have hd0 : (s.what == 0) = true := by simpa using hw0
          clear hw0
          go_wp2_with (first | (refine wpList_load_mid rfl _ _ rfl wr.heap.size 1 (by rfl) _ _ HRE.out Tryd.underlying51 (by rfl) (by kernel_rfl) ?_) | (at_builtin; refine wpList_append_one W5 rfl _ _ _ rfl (tb + 1) 51 _ 8 96 Tryd.underlying23 ev_info rfl (by decide) A5 nE c5 _ rfl HOW5.out [Value.string s.ev.src, .int .i64 s.ev.num, .int .i64 s.ev.at_, .int .i64 s.ev.kind, .string s.ev.person, .string s.ev.item, .int .i64 s.ev.value, .string s.ev.text] rfl rfl (evCells_one s.ev) (by omega) (by unfold maxLen; omega) HZ5.out ?_; intro A7 c7 w7 hown7 hg7 hb7))
          go_roundg (gk - 1)
          case measure => omega
          case rel =>
            refine ⟨k + 1, nE + 1, A7, c7, by go_num, by omega, rfl, Lib.hid ?_, Lib.hid ?_, Lib.hid (HBW5.out.trans hb7), Lib.hid (by have := HNK.out; omega)⟩
            · rw [HT2.out, List.length_append, ← HNE.out]; rfl
            · rw [HT2.out, evsCells_snoc]; exact hown7
        · have HT2 : Hid (toldOf (L.take (k + 1)) = toldOf (L.take k)) := Lib.hid (by rw [HTK.out, if_neg hw0, List.append_nil])
          have hd0 : (s.what == 0) = false := by simpa using hw0
          go_wp2_with fail
          go_roundg (gk - 1)
          case measure => omega
          case rel =>
            refine ⟨k + 1, nE, A5, c5, by go_num, by omega, rfl, Lib.hid ?_, Lib.hid ?_, HBW5, Lib.hid (by have := HNK.out; omega)⟩
            · rw [HT2.out, ← HNE.out]
            · rw [HT2.out]; exact HOW5.out
      · have hkn : k = L.length := by omega
        obtain ⟨z, hz1, hz2⟩ := HRB3.out
        have hz3 := (HBW.out.block w.heap.size (by omega)).trans hz1
        have htb := (HBW.out.block tb (by omega)).trans HTB.out
        have HZ4 := Lib.hid hz3
        have HZL := Lib.hid hz2
        have e23 : wr.cell? ⟨tb, 23, none⟩ = some (.int .i64 en) := by rw [cell_of_row wr tb 23 _ _ _ htb]; rfl
        have HRT : Hid (wr.rangeAt tb 0 [x0, x1, x2, x3, x4, x5, x6, x7, x8, x9, y0, y1, y2, y3, y4, y5, y6, y7, y8, y9, z0, z1]) := Lib.hid (by
          intro j v hv
          have hj : j < 22 := (List.getElem?_eq_some_iff.1 hv).1
          rw [cell_of_row wr tb (0 + j) _ _ _ htb, List.getElem?_toArray, Nat.zero_add, ← hv]
          have : [x0, x1, x2, x3, x4, x5, x6, x7, x8, x9, y0, y1, y2, y3, y4, y5, y6, y7, y8, y9, z0, z1, Value.slice A1 L.length c1, .int .i64 en] = [x0, x1, x2, x3, x4, x5, x6, x7, x8, x9, y0, y1, y2, y3, y4, y5, y6, y7, y8, y9, z0, z1] ++ [Value.slice A1 L.length c1, .int .i64 en] := rfl
          rw [this, List.getElem?_append_left (by simpa using hj)])
        have htbl : tb ≠ w.heap.size := by omega
        have e23b : ∀ cs, (wr.setRow w.heap.size cs).cell? ⟨tb, 23, none⟩ = some (.int .i64 en) := fun cs => (World.cell?_of_block (w := wr) (setRow_other wr _ _ _ htbl)).trans e23
        clear hz1 hz2 hz3 htb
        go_wp2_with fail
        refine heldStart 8 (S := fun W => W.cell? ⟨tb, 23, none⟩ = some (.int .i64 en)) (by kernel_rfl) ?_ (fun hHeld => ?_)
        · first | exact e23 | exact e23b _
        refine heldTake 0 (v := ?_) (by simp only [List.getElem?_toArray, List.getElem?_cons_succ, List.getElem?_cons_zero]; rfl) (by kernel_rfl) (by intro _ _ _ h; exact h) (by rfl) (by assumption) ?_ ?_
        rotate_left
        · intro W hSw; (try dsimp only at hSw); go_simp; try with_reducible rfl
        simp only [Act.put, List.setIfInBounds_toArray, List.set_cons_zero, List.set_cons_succ]
        refine heldTake 1 (v := ?_) (by simp only [List.getElem?_toArray, List.getElem?_cons_succ, List.getElem?_cons_zero]; rfl) (by kernel_rfl) (by intro _ _ _ h; exact h) (by rfl) (by assumption) ?_ ?_
        rotate_left
        · intro W hSw; (try dsimp only at hSw); go_simp; try with_reducible rfl
        simp only [Act.put, List.setIfInBounds_toArray, List.set_cons_zero, List.set_cons_succ]
        refine heldTake 3 (v := ?_) (by simp only [List.getElem?_toArray, List.getElem?_cons_succ, List.getElem?_cons_zero]; rfl) (by kernel_rfl) (by intro _ _ _ h; exact h) (by rfl) (by assumption) ?_ ?_
        rotate_left
        · intro W hSw; (try dsimp only at hSw); go_simp; try with_reducible rfl
        simp only [Act.put, List.setIfInBounds_toArray, List.set_cons_zero, List.set_cons_succ]
        refine heldTake 4 (v := ?_) (by simp only [List.getElem?_toArray, List.getElem?_cons_succ, List.getElem?_cons_zero]; rfl) (by kernel_rfl) (by intro _ _ _ h; exact h) (by rfl) (by assumption) ?_ ?_
        rotate_left
        · intro W hSw; (try dsimp only at hSw); go_simp; try with_reducible rfl
        simp only [Act.put, List.setIfInBounds_toArray, List.set_cons_zero, List.set_cons_succ]
        refine heldTake 5 (v := ?_) (by simp only [List.getElem?_toArray, List.getElem?_cons_succ, List.getElem?_cons_zero]; rfl) (by kernel_rfl) (by intro _ _ _ h; exact h) (by rfl) (by assumption) ?_ ?_
        rotate_left
        · intro W hSw; (try dsimp only at hSw); go_simp; try with_reducible rfl
        simp only [Act.put, List.setIfInBounds_toArray, List.set_cons_zero, List.set_cons_succ]
        refine heldCall 2 (by simp only [List.getElem?_toArray, List.getElem?_cons_succ, List.getElem?_cons_zero]; rfl) (by kernel_rfl) (fun K hK => ?_)
        refine wp_load_mid _ _ rfl tb 0 (by rfl) _ _ HRT.out Tryd.underlying32 (by rfl) (by kernel_rfl) ?_
        refine hK.out _ _ ?_ (fun hHeld => ?_)
        · first | exact e23 | exact e23b _
        clear hK K
        (try simp only [Act.put, List.setIfInBounds_toArray, List.set_cons_zero, List.set_cons_succ])
        refine heldCall 6 (by simp only [List.getElem?_toArray, List.getElem?_cons_succ, List.getElem?_cons_zero]; rfl) (by kernel_rfl) (fun K hK => ?_)
        refine wp_store_row 32 _ _ rfl w.heap.size _ (by rfl) (by rfl) _ _ HZ4.out (by kernel_rfl) (by simp only [List.size_toArray, HZL.out]; rfl) (by simpa using HCS.out.2) ?_
        refine hK.out _ _ ?_ (fun hHeld => ?_)
        · first | exact e23 | exact e23b _
        clear hK K
        (try simp only [Act.put, List.setIfInBounds_toArray, List.set_cons_zero, List.set_cons_succ])
        refine heldTake 7 (v := ?_) (by simp only [List.getElem?_toArray, List.getElem?_cons_succ, List.getElem?_cons_zero]; rfl) (by kernel_rfl) (by intro _ _ _ h; exact h) (by rfl) (by assumption) ?_ ?_
        rotate_left
        · intro W hSw; (try dsimp only at hSw); go_simp; try with_reducible rfl
        simp only [Act.put, List.setIfInBounds_toArray, List.set_cons_zero, List.set_cons_succ]
        refine heldTake 8 (v := ?_) (by simp only [List.getElem?_toArray, List.getElem?_cons_succ, List.getElem?_cons_zero]; rfl) (by kernel_rfl) (by intro _ _ _ h; exact h) (by rfl) (by assumption) ?_ ?_
        rotate_left
        · intro W hSw; (try dsimp only at hSw); go_simp; try with_reducible rfl
        simp only [Act.put, List.setIfInBounds_toArray, List.set_cons_zero, List.set_cons_succ]
        refine heldDone (by kernel_rfl) ?_ _
        go_wp2_with fail
        refine bodyPost_ret (results_tctt rfl _ _ _ _ _ _ _ (by rfl) (setRow_heap wr _ _ _ _ _ HZ4.out) Tryd.underlying32 (by rfl) (by kernel_rfl)) rfl ?_
        have hkp : ∀ cs : Array Value, Keeps (fun x => x = w.heap.size) wr (wr.drew.setRow w.heap.size cs) := fun cs => ⟨rfl, rfl, rfl, by simp, fun x _ hx => setRow_other wr.drew _ x _ hx⟩
        have hown := fun cs => (hkp cs).own HOW.out (fun x hx e => by have := (HOW.out.lt x hx).1; omega)
        have htake : L.take k = L := List.take_of_length_le (by omega)
        have hE := HNE.out
        rw [htake] at hE hown
        have hbw : Below w.heap.size w wr := HW3.out.trans (HBW.out.mono (by omega))
        refine ⟨A5, c5, toldOf L, _, en, by rw [HD.out, ← hE]; rfl, HCS.out.1, HCS.out.2, ?_, HEV.out, ?_, hbw.trans ((hkp _).toBelow hbw.size (fun x hx => by omega)), own_none (hown #[])⟩
        · rw [← hE]; exact Reads.of_own (hown _)
        · have := toldOf_len L; omega
end Go.Proofs.YtaollcpoibgblaaDoor
