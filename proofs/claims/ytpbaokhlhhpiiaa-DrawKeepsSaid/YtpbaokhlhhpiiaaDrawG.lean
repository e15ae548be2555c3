/- Contract of draw.Mix. -/
import Derived.Test.YtpbaokhlhhpiiaaDrawF
import Derived.OneCell
namespace Go.Proofs.Ytpbaokhlhhpiiaa
open Go.ChangeShapes Go.WideShapes Go.ChangeAt Go.RowKit
set_option linter.unusedVariables false
set_option linter.unusedSimpArgs false

/-- Place by place: from place i on, k places. -/
def mixFrom (every : Int) : Nat → Nat → List ByteArray → List ByteArray → List ByteArray
  | 0, _, _, _ => []
  | k + 1, i, f, d =>
    if 1 ≤ every ∧ ((i : Int) + 1) % every = 0 then
      match d with
      | x :: d' => x :: mixFrom every k (i + 1) f d'
      | [] => match f with
        | x :: f' => x :: mixFrom every k (i + 1) f' []
        | [] => []
    else match f with
      | x :: f' => x :: mixFrom every k (i + 1) f' d
      | [] => []

def freshV (seed : Int) (main other : List ByteArray) : List ByteArray := (sampleAll seed other).filter (fun x => !memB x (onceV main))
def mixV (seed : Int) (main other : List ByteArray) (every : Int) : List ByteArray := mixFrom every (onceV main).length 0 (onceV main) (freshV seed main other)

theorem StrsAt.tail {w : World} {B : Nat} {A : Option Addr} {x : ByteArray} {l : List ByteArray} {b o : Nat} (hA : A = some ⟨b, o, none⟩) (h : StrsAt w B A (x :: l)) : StrsAt w B (some ⟨b, o + 1, none⟩) l := by
  obtain ⟨b', o', e, hb, hc⟩ := h.1.2 (by simp)
  rw [hA] at e
  injection e with e
  injection e with e1 e2
  subst e1 e2
  refine ⟨⟨by simp, fun _ => ⟨b, o + 1, rfl, hb, fun j u hu => ?_⟩⟩, fun s hs => h.2 s (by simp [hs])⟩
  have := hc (j + 1) u (by simpa using hu)
  rw [show o + (j + 1) = o + 1 + j by omega] at this
  exact this

set_option maxHeartbeats 400000 in
theorem delS_nil (A : Option Addr) (c : Nat) (fv : Value) (w : World) : Calls Try.prog 32 #[.slice A 0 c, fv] w fun e w' => e = .returned (.slice A 0 c) ∧ w = w' := by
  have hI := fun W => AnyE.slices_IndexFunc_empty (P := Try.prog) (ρ := Try.delS_ren) { Try.delS with } A c fv W
  change ∀ W, Calls Try.prog 41 _ _ _ at hI
  go_enter Try.func32, Try.ntmps32
  go_wp2_with (go_at_call 41; refine (hI _).mono ?_; rintro e w' ⟨rfl, rfl⟩)
  refine bodyPost_ret (results_tmp rfl _ _ _) rfl ?_
  exact ⟨rfl, rfl⟩

set_option maxHeartbeats 400000 in
theorem mixp_any (x : ByteArray) (fb : Nat) (A : Option Addr) (B c : Nat) (l : List ByteArray) (w : World) (hc : w.cell? ⟨fb, 0, none⟩ = some (.slice A l.length c)) (h : StrsAt w B A l) (hl : (l.length : Int) ≤ 1000000) :
    Calls Try.prog 33 #[.string x, .pointer (some ⟨fb, 0, none⟩)] w fun e w' => e = .returned (.bool (memB x l)) ∧ w = w' := by
  have hcon := contains_any Try.conS A B c l x w h (by omega)
  change Calls Try.prog 34 _ _ _ at hcon
  generalize memB x l = r at *
  have HC := Lib.hid hcon
  clear hcon
  go_enter Try.func33, Try.ntmps33
  go_wp2_with fail
  refine HC.out.mono ?_
  rintro e w' ⟨rfl, rfl⟩
  go_wp2
  go_ret
  exact ⟨rfl, rfl⟩

/-- What is left of others that main hasn't. -/
theorem del_any (fb : Nat) (A1 : Option Addr) (B1 c1 : Nat) (f : List ByteArray) (base : Nat) (A : Option Addr) (n c : Nat) (l : List ByteArray) (hn : l.length = n) (w : World) (hown : w.ownsRow base 9 1 (.slice A n c) n (l.map Value.string)) (hs : ∀ s ∈ l, s.size ≤ maxLen)
    (hc : w.cell? ⟨fb, 0, none⟩ = some (.slice A1 f.length c1)) (hfb : fb < base) (h1 : StrsAt w B1 A1 f) (hB1 : B1 ≤ base) (hbase : base ≤ w.heap.size) (hl : (f.length : Int) ≤ 1000000) :
    Calls Try.prog 32 #[.slice A n c, .func (.func 33) #[] #[.pointer (some ⟨fb, 0, none⟩)]] w fun r w' =>
      ∃ A' c', r = .returned (.slice A' (l.filter fun x => !memB x f).length c') ∧ StrsAt w' w'.heap.size A' (l.filter fun x => !memB x f) ∧ (l.filter fun x => !memB x f).length ≤ c' ∧ (∀ b o sp, A' = some ⟨b, o, sp⟩ → base ≤ b ∧ b < w'.heap.size ∧ sp = none) ∧ Below base w w' := by
  have eg : ∀ args w, (callFunc 33 args).run Try.prog w = .ok (.enter 33 args) w := enters_of Try.func33 (by kernel_rfl) rfl
  obtain ⟨hsp, hcap⟩ := own_sp hown
  have hlt : ∀ k, (Value.slice A n c).ownBlock = some k → base ≤ k := fun k hk => (hown.lt k hk).1
  cases hA : A with
  | none =>
    subst hA
    have h0 : n = 0 := by
      rcases hown.2 with ⟨_, h0⟩ | ⟨g, cap, cur, hv, _⟩
      · exact h0
      · cases hv
    subst h0
    have hl0 : l = [] := List.eq_nil_of_length_eq_zero hn
    subst hl0
    refine (delS_nil none c _ w).mono ?_
    rintro e w' ⟨rfl, rfl⟩
    exact ⟨none, c, rfl, StrsAt.nil _ _ _, by simp, fun b o sp e => (by cases e), Below.refl _ _⟩
  | some ad =>
    subst hA
    have h := deleteFunc_any Try.delS (fun x => memB x f) 33 #[.pointer (some ⟨fb, 0, none⟩)] eg (fun w => by kernel_rfl) base 9 (some ad) n c l hn w hown hs (fun W x hk => by
      have hk' : Keeps (fun k => base ≤ k) w W := hk.mono (fun k _ h => hlt k h)
      refine (mixp_any x fb A1 B1 c1 f W ((hk'.cell (by show fb < _; omega) (by show ¬ base ≤ fb; omega)).trans hc) ⟨h1.1.keep (fun p hp => hk'.cell (by omega) (by omega)), h1.2⟩ hl).mono ?_
      rintro r w' ⟨rfl, rfl⟩
      exact ⟨rfl, 0, rfl⟩) (by simp)
    change Calls Try.prog 32 _ _ _ at h
    refine h.mono ?_
    rintro r w' ⟨rfl, h2, h3⟩
    have hfl : (l.filter fun x => !memB x f).length ≤ l.length := List.length_filter_le _ _
    refine ⟨some ad, c, rfl, h2, by omega, ?_, h3.toBelow hbase (fun k hk => hlt k hk)⟩
    intro b o sp e
    injection e with e
    have := hown.lt b (by rw [e]; rfl)
    have hz := h3.size
    exact ⟨this.1, by omega, hsp b o sp (by rw [e])⟩
theorem smpV_all (seed n : Int) (l : List ByteArray) (h : (l.length : Int) ≤ n) : sampleV seed n l = sampleAll seed l := by
  unfold sampleV
  refine List.take_of_length_le ?_
  have := sampleAll_len seed l
  have := onceV_len l
  omega
theorem fresh_mem {seed : Int} {main other : List ByteArray} {s : ByteArray} (h : s ∈ freshV seed main other) : s ∈ other := mem_sampleAll.1 (List.mem_filter.1 h).1

/-- What stands between two places. -/
structure MixSt (w : World) (B0 fb : Nat) (wr : World) (A3 : Option Addr) (c3 : Nat) (out : List ByteArray) (A1 : Option Addr) (c1 : Nat) (f : List ByteArray) (A2 : Option Addr) (c2 : Nat) (d : List ByteArray) : Prop where
  own : wr.ownsRow B0 9 1 (.slice A3 out.length c3) out.length (out.map Value.string)
  box : wr.heap[fb]? = some (.cells #[.slice A1 f.length c1] 23 (0, 0))
  r1 : StrsAt wr B0 A1 f
  r2 : StrsAt wr B0 A2 d
  l1 : f.length ≤ c1
  l2 : d.length ≤ c2
  a1 : ∀ b o sp, A1 = some ⟨b, o, sp⟩ → b ≠ fb ∧ sp = none
  a2 : ∀ b o sp, A2 = some ⟨b, o, sp⟩ → b ≠ fb ∧ sp = none
  fbB : fb < B0
  BB : w.heap.size ≤ fb ∧ B0 ≤ wr.heap.size
  bel : Below w.heap.size w wr

section
variable {w wr w' : World} {B0 fb c3 c1 c2 : Nat} {A3 A1 A2 : Option Addr} {out f d : List ByteArray} {x : ByteArray}
theorem MixSt.push (h : MixSt w B0 fb wr A3 c3 out A1 c1 f A2 c2 d) {A' : Option Addr} {c' : Nat} (ho : w'.ownsRow B0 9 1 (.slice A' (out.length + 1) c') (out.length + 1) (out.map Value.string ++ [.string x])) (hb : Below B0 wr w') : MixSt w B0 fb w' A' c' (out ++ [x]) A1 c1 f A2 c2 d where
  own := by simpa using ho
  box := (hb.block fb h.fbB).trans h.box
  r1 := h.r1.below hb
  r2 := h.r2.below hb
  l1 := h.l1
  l2 := h.l2
  a1 := h.a1
  a2 := h.a2
  fbB := h.fbB
  BB := ⟨h.BB.1, by have := hb.size; have := h.BB.2; omega⟩
  bel := h.bel.trans (hb.mono (by have := h.BB.1; have := h.fbB; omega))
theorem MixSt.popD {b o : Nat} (h : MixSt w B0 fb wr A3 c3 out A1 c1 f (some ⟨b, o, none⟩) c2 (x :: d)) : MixSt w B0 fb wr A3 c3 out A1 c1 f (if c2 = 1 then some ⟨b, o, none⟩ else some ⟨b, o + 1, none⟩) (c2 - 1) d := by
  have hl := h.l2
  have ha := h.a2 b o none rfl
  refine ⟨h.own, h.box, h.r1, ?_, h.l1, by simp at hl; omega, h.a1, ?_, h.fbB, h.BB, h.bel⟩
  · by_cases e : c2 = 1
    · have : d = [] := by simp at hl; exact List.eq_nil_of_length_eq_zero (by omega)
      subst this
      exact StrsAt.nil _ _ _
    · rw [if_neg e]; exact h.r2.tail rfl
  · intro b' o' sp e
    split at e
    all_goals (injection e with e; injection e with e1 e2 e3; subst e1 e3; exact ha)
theorem MixSt.popF' {b o : Nat} {A' : Option Addr} (hA' : A' = if c1 = 1 then some ⟨b, o, none⟩ else some ⟨b, o + 1, none⟩) (h : MixSt w B0 fb wr A3 c3 out (some ⟨b, o, none⟩) c1 (x :: f) A2 c2 d) : MixSt w B0 fb (wr.setCell ⟨fb, 0, none⟩ (.slice A' f.length (c1 - 1))) A3 c3 out A' (c1 - 1) f A2 c2 d := by
  have hl := h.l1
  have ha := h.a1 b o none rfl
  have hk : Keeps (fun k => k = fb) wr (wr.setCell ⟨fb, 0, none⟩ (.slice A' f.length (c1 - 1))) := (Keeps.refl (fun k => k = fb) wr).setCell (p := ⟨fb, 0, none⟩) (.inr rfl) _
  have hz : (wr.setCell ⟨fb, 0, none⟩ (.slice A' f.length (c1 - 1))).heap.size = wr.heap.size := by simp [World.setCell]
  have hB := h.BB
  have hfb := h.fbB
  have hr1 : ∀ {A : Option Addr} {l : List ByteArray}, (∀ b o sp, A = some ⟨b, o, sp⟩ → b ≠ fb ∧ sp = none) → StrsAt wr B0 A l → StrsAt (wr.setCell ⟨fb, 0, none⟩ (.slice A' f.length (c1 - 1))) B0 A l := fun hA hr => hr.keep hk (by omega) (fun b o sp e he => (hA b o sp e).1 he)
  refine ⟨hk.own h.own (fun k hk' e => by have := (h.own.lt k hk').1; omega), one_setCell h.box, ?_, hr1 h.a2 h.r2, by simp at hl; omega, h.l2, ?_, h.a2, h.fbB, ⟨hB.1, by rw [hz]; exact hB.2⟩, h.bel.trans (hk.toBelow (by omega) (fun k hk => by omega))⟩
  · by_cases e : c1 = 1
    · have : f = [] := by simp at hl; exact List.eq_nil_of_length_eq_zero (by omega)
      subst this
      exact StrsAt.nil _ _ _
    · rw [if_neg e] at hA'
      refine hr1 (fun b' o' sp e => ?_) (by rw [hA']; exact h.r1.tail rfl)
      rw [hA'] at e
      injection e with e; injection e with e1 e2 e3; subst e1 e3; exact ha
  · intro b' o' sp e
    rw [hA'] at e
    split at e
    all_goals (injection e with e; injection e with e1 e2 e3; subst e1 e3; exact ha)
theorem MixSt.popF {b o : Nat} (h : MixSt w B0 fb wr A3 c3 out (some ⟨b, o, none⟩) c1 (x :: f) A2 c2 d) : MixSt w B0 fb (wr.setCell ⟨fb, 0, none⟩ (.slice (if c1 = 1 then some ⟨b, o, none⟩ else some ⟨b, o + 1, none⟩) f.length (c1 - 1))) A3 c3 out (if c1 = 1 then some ⟨b, o, none⟩ else some ⟨b, o + 1, none⟩) (c1 - 1) f A2 c2 d := h.popF' rfl
end

def MixRel (w : World) (B0 fb : Nat) (every : Int) (N : Nat) (R : List ByteArray) (rest : Nat) (dv lv i : Value) (wr : World) : Prop :=
  ∃ (k : Nat) (A3 : Option Addr) (c3 : Nat) (out : List ByteArray) (Q1 : Option Addr) (q1 : Nat) (f : List ByteArray) (Q2 : Option Addr) (q2 : Nat) (d : List ByteArray), i = .int .i64 k ∧ lv = .slice A3 out.length c3 ∧ dv = .slice Q2 d.length q2 ∧
    MixSt w B0 fb wr A3 c3 out Q1 q1 f Q2 q2 d ∧ Hid (R = out ++ mixFrom every rest k f d) ∧ Hid (k + rest = N) ∧ Hid (rest ≤ f.length) ∧ Hid (out.length ≤ k)

set_option maxRecDepth 20000 in
set_option maxHeartbeats 2000000 in
theorem mix_any (seed every : Int) (A1 A2 : Option Addr) (B c1 c2 : Nat) (main other : List ByteArray) (w : World) (h1 : StrsAt w B A1 main) (h2 : StrsAt w B A2 other) (hB : B ≤ w.heap.size) (hl1 : (main.length : Int) ≤ 1000000) (hl2 : (other.length : Int) ≤ 1000000) (he : every ≤ 9223372036854775807) :
    Calls Try.prog 18 #[.int .u64 seed, .slice A1 main.length c1, .slice A2 other.length c2, .int .i64 every] w fun e w' => ∃ A' c', e = .returned (.slice A' (mixV seed main other every).length c') ∧ w'.ownsRow w.heap.size 9 1 (.slice A' (mixV seed main other every).length c') (mixV seed main other every).length ((mixV seed main other every).map Value.string) ∧ Below w.heap.size w w' := by
  obtain ⟨R, hR⟩ : ∃ R, mixV seed main other every = R := ⟨_, rfl⟩
  rw [hR]
  have HRR := Lib.hid hR
  clear hR
  have hlen := onceV_len main
  have hs1 : ∀ s ∈ onceV main, s.size ≤ maxLen := fun s hs => h1.2 s (mem_onceV.1 hs)
  have HS1 := Lib.hid hs1
  clear hs1
  go_enter Try.func18, Try.ntmps18
  go_wp2_with fail
  refine (unlike_any A1 B c1 main w h1 hB hl1).mono ?_
  rintro e w1 ⟨P1, p1, rfl, ho1, hb1⟩
  have hz1 := hb1.size
  go_wp2_with fail
  have hA1 : Below w.heap.size w (w1.alloc (.cells #[.slice P1 (onceV main).length p1] 23)) := hb1.alloc hz1 _
  have h2' := (h2.below (hA1.mono hB)).more (B' := (w1.alloc (.cells #[.slice P1 (onceV main).length p1] 23)).heap.size) (by simp; omega)
  refine (sample_any seed 9223372036854775807 A2 _ c2 other _ h2' (Nat.le_refl _) hl2 (Int.le_refl _)).mono ?_
  rw [smpV_all seed 9223372036854775807 other (by omega)]
  rintro e w2 ⟨P2, p2, rfl, ho2, hb2⟩
  have hz2 := hb2.size
  simp at hz2
  have hsall : (sampleAll seed other).length ≤ other.length := by rw [sampleAll_len]; exact onceV_len other
  obtain ⟨sp1, cp1⟩ := own_sp ho1
  have lt1 := fun b o sp (e : P1 = some ⟨b, o, sp⟩) => ho1.lt b (by rw [e]; rfl)
  have hr1 : StrsAt w1 w1.heap.size P1 (onceV main) := StrsAt.of_own ho1 HS1.out
  have hr2 : StrsAt w2 w1.heap.size P1 (onceV main) := (hr1.below ((Below.refl _ _).alloc (Nat.le_refl _) _)).below (hb2.mono (by simp))
  have hbox2 : w2.heap[w1.heap.size]? = some (.cells #[.slice P1 (onceV main).length p1] 23 (0, 0)) := (hb2.block _ (by simp)).trans (heap_alloc_new w1 _)
  have hb2w : Below w.heap.size w w2 := hA1.trans (hb2.mono (by simp; omega))
  go_wp2_with fail
  refine (del_any w1.heap.size P1 w1.heap.size p1 (onceV main) (w1.heap.size + 1) P2 _ p2 (sampleAll seed other) rfl w2 (by simpa using ho2) (fun s hs => h2.2 s (mem_sampleAll.1 hs)) (cell_of_one hbox2) (by omega) hr2 (by omega) (by omega) (by omega)).mono ?_
  rintro e w3 ⟨P3, p3, rfl, hr3, hl3, ha3, hb3⟩
  have efr : (sampleAll seed other).filter (fun x => !memB x (onceV main)) = freshV seed main other := rfl
  rw [efr] at hr3 hl3 ⊢
  have hz3 := hb3.size
  have ST : MixSt w w3.heap.size w1.heap.size w3 none 0 [] P1 p1 (onceV main) P3 p3 (freshV seed main other) :=
    ⟨⟨rfl, .inl ⟨rfl, rfl⟩⟩, (hb3.block _ (by omega)).trans hbox2, (hr2.below (hb3.mono (by omega))).more (by omega), hr3, cp1, hl3, fun b o sp e => ⟨by have := (lt1 b o sp e).2; omega, sp1 b o sp e⟩, fun b o sp e => ⟨by have := (ha3 b o sp e).1; omega, (ha3 b o sp e).2.2⟩, by omega, ⟨hz1, Nat.le_refl _⟩, hb2w.trans (hb3.mono (by omega))⟩
  have EM : Hid (R = [] ++ mixFrom every (onceV main).length 0 (onceV main) (freshV seed main other)) := Lib.hid (by rw [← HRR.out]; rfl)
  have hbc := cell_of_one ST.box
  generalize hN : (onceV main).length = N at *
  have HNL := Lib.hid hN
  clear hN ho1 hb1 hA1 h2' ho2 hb2 hr1 hr2 hbox2 hb2w hr3 hl3 ha3 hb3 efr lt1
  go_wp2_with fail
  have START : MixRel w w3.heap.size w1.heap.size every N R N (.slice P3 (freshV seed main other).length p3) (.slice none 0 0) (.int .i64 0) w3 :=
    ⟨0, none, 0, [], P1, p1, onceV main, P3, p3, freshV seed main other, rfl, rfl, rfl, ST, EM, Lib.hid (by omega), Lib.hid (by rw [HNL.out]; exact Nat.le_refl _), Lib.hid (by simp)⟩
  go_loopg [10, 11, 22] N (fun rest dv lv i wr => MixRel w w3.heap.size w1.heap.size every N R rest dv lv i wr)
  case atStart => exact START
  case round =>
    obtain ⟨k, A3, c3, out, Q1, q1, f, Q2, q2, d, rfl, rfl, rfl, st, HR, HK, HF, HO⟩ := hrel
    clear ST EM hbc
    by_cases hk : (k : Int) < (N : Int)
    · obtain ⟨r, rfl⟩ : ∃ r, gk = r + 1 := ⟨gk - 1, by have := HK.out; omega⟩
      have hl1 := st.l1
      have hl2 := st.l2
      have hBB := st.BB
      have hbc := cell_of_one st.box
      have hfz := free_of_one st.box
      have hown := st.own
      have hol := HO.out
      have hkn : k < N := by omega
      by_cases hev : 1 ≤ every ∧ ((k : Int) + 1) % every = 0
      · cases d with
        | cons x d' =>
          obtain ⟨e1, e2⟩ := hev
          obtain ⟨b, o, rfl, hb, hcell, hs⟩ := st.r2.one (k := 0) (by simp)
          simp only [Nat.add_zero, List.getElem_cons_zero] at hcell hs
          have HR2 : Hid (R = (out ++ [x]) ++ mixFrom every r (k + 1) f d') := Lib.hid (by rw [HR.out]; simp [mixFrom, e1, e2])
          have e2b : (((k : Int) + 1) % every == 0) = true := by simp [e2]
          simp only [List.length_cons] at hl2 ⊢
          have HE2 := Lib.hid e2
          clear e2
          by_cases hq : q2 = 1
          · subst hq
            obtain rfl : d' = [] := List.eq_nil_of_length_eq_zero (by omega)
            go_wp2_with (at_builtin; refine wpList_append_cell wr rfl _ _ _ rfl w3.heap.size 9 (.string ByteArray.empty) 16 Try.underlying23 str_info rfl A3 out.length c3 _ rfl hown (.string x) rfl rfl (by omega) (by unfold maxLen; omega) (by omega) ?_; intro A4 c4 w4 hown4 hg4 hb4)
            go_roundg r
            case measure => omega
            case rel => exact ⟨k + 1, A4, c4, out ++ [x], Q1, q1, f, some ⟨b, o, none⟩, 0, [], by go_num, by simp, rfl, (st.push hown4 hb4).popD, HR2, Lib.hid (by have := HK.out; omega), Lib.hid (by have := HF.out; omega), Lib.hid (by simp; omega)⟩
          · go_wp2_with (at_builtin; refine wpList_append_cell wr rfl _ _ _ rfl w3.heap.size 9 (.string ByteArray.empty) 16 Try.underlying23 str_info rfl A3 out.length c3 _ rfl hown (.string x) rfl rfl (by omega) (by unfold maxLen; omega) (by omega) ?_; intro A4 c4 w4 hown4 hg4 hb4)
            go_roundg r
            case measure => omega
            case rel => exact ⟨k + 1, A4, c4, out ++ [x], Q1, q1, f, some ⟨b, o + 1, none⟩, q2 - 1, d', by go_num, by simp, rfl, (by have := (st.push (x := x) hown4 hb4).popD; rw [if_neg hq] at this; exact this), HR2, Lib.hid (by have := HK.out; omega), Lib.hid (by have := HF.out; omega), Lib.hid (by simp; omega)⟩
        | nil =>
          obtain ⟨e1, e2⟩ := hev
          have HEV : Hid (1 ≤ every ∧ ((k : Int) + 1) % every = 0) := Lib.hid ⟨e1, e2⟩
          have e2b : (((k : Int) + 1) % every == 0) = true := by simp [e2]
          clear e2
          obtain ⟨x, f', rfl⟩ : ∃ x f', f = x :: f' := by
            cases f with
            | nil => have := HF.out; simp at this
            | cons x f' => exact ⟨x, f', rfl⟩
          obtain ⟨b, o, rfl, hb, hcell, hs⟩ := st.r1.one (k := 0) (by simp)
          simp only [Nat.add_zero, List.getElem_cons_zero] at hcell hs
          have HR2 : Hid (R = (out ++ [x]) ++ mixFrom every r (k + 1) f' []) := Lib.hid (by rw [HR.out]; simp [mixFrom, HEV.out])
          have HF2 : Hid (r ≤ f'.length) := Lib.hid (by have := HF.out; simp at this; omega)
          simp only [List.length_cons] at hl1 hbc ⊢
          have hfbB := st.fbB
          have hbB := hb
          by_cases hq : q1 = 1
          · subst hq
            obtain rfl : f' = [] := List.eq_nil_of_length_eq_zero (by omega)
            go_wp2_with (at_builtin; refine wpList_append_cell wr rfl _ _ _ rfl w3.heap.size 9 (.string ByteArray.empty) 16 Try.underlying23 str_info rfl A3 out.length c3 _ rfl hown (.string x) rfl rfl (by omega) (by unfold maxLen; omega) (by omega) ?_; intro A4 c4 w4 hown4 hg4 hb4; have bx4 := (hb4.block _ hfbB).trans st.box; have hc4 : w4.cell? ⟨w1.heap.size, 0, none⟩ = some (.slice (some ⟨b, o, none⟩) 1 1) := cell_of_one bx4; have hf4 := free_of_one bx4)
            go_roundg r
            case measure => omega
            case rel => exact ⟨k + 1, A4, c4, out ++ [x], some ⟨b, o, none⟩, 0, [], Q2, q2, [], by go_num, by simp, rfl, (st.push hown4 hb4).popF, HR2, Lib.hid (by have := HK.out; omega), HF2, Lib.hid (by simp; omega)⟩
          · go_wp2_with (at_builtin; refine wpList_append_cell wr rfl _ _ _ rfl w3.heap.size 9 (.string ByteArray.empty) 16 Try.underlying23 str_info rfl A3 out.length c3 _ rfl hown (.string x) rfl rfl (by omega) (by unfold maxLen; omega) (by omega) ?_; intro A4 c4 w4 hown4 hg4 hb4; have bx4 := (hb4.block _ hfbB).trans st.box; have hc4 : w4.cell? ⟨w1.heap.size, 0, none⟩ = some (.slice (some ⟨b, o, none⟩) (f'.length + 1) q1) := cell_of_one bx4; have hf4 := free_of_one bx4)
            go_roundg r
            case measure => omega
            case rel => exact ⟨k + 1, A4, c4, out ++ [x], some ⟨b, o + 1, none⟩, q1 - 1, f', Q2, q2, [], by go_num, by simp, rfl, (by have := (st.push (x := x) hown4 hb4).popF; rw [if_neg hq] at this; exact this), HR2, Lib.hid (by have := HK.out; omega), HF2, Lib.hid (by simp; omega)⟩
      · have HEV := Lib.hid hev
        by_cases e1 : 1 ≤ every
        · have e2b : (((k : Int) + 1) % every == 0) = false := by
            rw [beq_eq_false_iff_ne]; exact fun e => hev ⟨e1, e⟩
          clear hev
          obtain ⟨x, f', rfl⟩ : ∃ x f', f = x :: f' := by
            cases f with
            | nil => have := HF.out; simp at this
            | cons x f' => exact ⟨x, f', rfl⟩
          obtain ⟨b, o, rfl, hb, hcell, hs⟩ := st.r1.one (k := 0) (by simp)
          simp only [Nat.add_zero, List.getElem_cons_zero] at hcell hs
          have HR2 : Hid (R = (out ++ [x]) ++ mixFrom every r (k + 1) f' d) := Lib.hid (by rw [HR.out]; simp [mixFrom, HEV.out])
          have HF2 : Hid (r ≤ f'.length) := Lib.hid (by have := HF.out; simp at this; omega)
          simp only [List.length_cons] at hl1 hbc ⊢
          have hfbB := st.fbB
          have hbB := hb
          by_cases hq : q1 = 1
          · subst hq
            obtain rfl : f' = [] := List.eq_nil_of_length_eq_zero (by omega)
            go_wp2_with (at_builtin; refine wpList_append_cell wr rfl _ _ _ rfl w3.heap.size 9 (.string ByteArray.empty) 16 Try.underlying23 str_info rfl A3 out.length c3 _ rfl hown (.string x) rfl rfl (by omega) (by unfold maxLen; omega) (by omega) ?_; intro A4 c4 w4 hown4 hg4 hb4; have bx4 := (hb4.block _ hfbB).trans st.box; have hc4 : w4.cell? ⟨w1.heap.size, 0, none⟩ = some (.slice (some ⟨b, o, none⟩) 1 1) := cell_of_one bx4; have hf4 := free_of_one bx4)
            go_roundg r
            case measure => omega
            case rel => exact ⟨k + 1, A4, c4, out ++ [x], some ⟨b, o, none⟩, 0, [], Q2, q2, d, by go_num, by simp, rfl, (st.push hown4 hb4).popF, HR2, Lib.hid (by have := HK.out; omega), HF2, Lib.hid (by simp; omega)⟩
          · go_wp2_with (at_builtin; refine wpList_append_cell wr rfl _ _ _ rfl w3.heap.size 9 (.string ByteArray.empty) 16 Try.underlying23 str_info rfl A3 out.length c3 _ rfl hown (.string x) rfl rfl (by omega) (by unfold maxLen; omega) (by omega) ?_; intro A4 c4 w4 hown4 hg4 hb4; have bx4 := (hb4.block _ hfbB).trans st.box; have hc4 : w4.cell? ⟨w1.heap.size, 0, none⟩ = some (.slice (some ⟨b, o, none⟩) (f'.length + 1) q1) := cell_of_one bx4; have hf4 := free_of_one bx4)
            go_roundg r
            case measure => omega
            case rel => exact ⟨k + 1, A4, c4, out ++ [x], some ⟨b, o + 1, none⟩, q1 - 1, f', Q2, q2, d, by go_num, by simp, rfl, (by have := (st.push (x := x) hown4 hb4).popF; rw [if_neg hq] at this; exact this), HR2, Lib.hid (by have := HK.out; omega), HF2, Lib.hid (by simp; omega)⟩
        · have e1b : decide (1 ≤ every) = false := by simpa using e1
          clear hev
          obtain ⟨x, f', rfl⟩ : ∃ x f', f = x :: f' := by
            cases f with
            | nil => have := HF.out; simp at this
            | cons x f' => exact ⟨x, f', rfl⟩
          obtain ⟨b, o, rfl, hb, hcell, hs⟩ := st.r1.one (k := 0) (by simp)
          simp only [Nat.add_zero, List.getElem_cons_zero] at hcell hs
          have HR2 : Hid (R = (out ++ [x]) ++ mixFrom every r (k + 1) f' d) := Lib.hid (by rw [HR.out]; simp [mixFrom, HEV.out])
          have HF2 : Hid (r ≤ f'.length) := Lib.hid (by have := HF.out; simp at this; omega)
          simp only [List.length_cons] at hl1 hbc ⊢
          have hfbB := st.fbB
          have hbB := hb
          by_cases hq : q1 = 1
          · subst hq
            obtain rfl : f' = [] := List.eq_nil_of_length_eq_zero (by omega)
            go_wp2_with (at_builtin; refine wpList_append_cell wr rfl _ _ _ rfl w3.heap.size 9 (.string ByteArray.empty) 16 Try.underlying23 str_info rfl A3 out.length c3 _ rfl hown (.string x) rfl rfl (by omega) (by unfold maxLen; omega) (by omega) ?_; intro A4 c4 w4 hown4 hg4 hb4; have bx4 := (hb4.block _ hfbB).trans st.box; have hc4 : w4.cell? ⟨w1.heap.size, 0, none⟩ = some (.slice (some ⟨b, o, none⟩) 1 1) := cell_of_one bx4; have hf4 := free_of_one bx4)
            go_roundg r
            case measure => omega
            case rel => exact ⟨k + 1, A4, c4, out ++ [x], some ⟨b, o, none⟩, 0, [], Q2, q2, d, by go_num, by simp, rfl, (st.push hown4 hb4).popF, HR2, Lib.hid (by have := HK.out; omega), HF2, Lib.hid (by simp; omega)⟩
          · go_wp2_with (at_builtin; refine wpList_append_cell wr rfl _ _ _ rfl w3.heap.size 9 (.string ByteArray.empty) 16 Try.underlying23 str_info rfl A3 out.length c3 _ rfl hown (.string x) rfl rfl (by omega) (by unfold maxLen; omega) (by omega) ?_; intro A4 c4 w4 hown4 hg4 hb4; have bx4 := (hb4.block _ hfbB).trans st.box; have hc4 : w4.cell? ⟨w1.heap.size, 0, none⟩ = some (.slice (some ⟨b, o, none⟩) (f'.length + 1) q1) := cell_of_one bx4; have hf4 := free_of_one bx4)
            go_roundg r
            case measure => omega
            case rel => exact ⟨k + 1, A4, c4, out ++ [x], some ⟨b, o + 1, none⟩, q1 - 1, f', Q2, q2, d, by go_num, by simp, rfl, (by have := (st.push (x := x) hown4 hb4).popF; rw [if_neg hq] at this; exact this), HR2, Lib.hid (by have := HK.out; omega), HF2, Lib.hid (by simp; omega)⟩
    · have hg : gk = 0 := by have := HK.out; omega
      subst hg
      have HR2 : Hid (R = out) := Lib.hid (by rw [HR.out]; simp [mixFrom])
      clear HR
      go_wp2
      refine bodyPost_ret (results_tmp rfl _ _ _) rfl ?_
      rw [HR2.out]
      exact ⟨A3, c3, rfl, own_base st.own (by have := st.BB; have := st.fbB; omega), st.bel⟩
end Go.Proofs.Ytpbaokhlhhpiiaa
