/- Contract of (*decay.Counter).At: the sum of each add's number times its weight. -/
import Derived.Test.YtgahopkbgefjdaaDecC
namespace Go.Proofs.Ytgahopkbgefjdaa
open Go.ChangeShapes Go.WideShapes Go.ChangeAt Go.RowKit
set_option linter.unusedVariables false
set_option linter.unusedSimpArgs false

theorem wtV_bd (age half : Int) : 0 ≤ wtV age half ∧ wtV age half ≤ 1048576 := by
  unfold wtV
  split
  · omega
  · split
    · omega
    · refine ⟨Int.ediv_nonneg (by omega) (by exact Int.le_of_lt (Int.pow_pos (by omega))), Int.ediv_le_self _ (by omega)⟩

theorem rowSum_perm (f : Int → Int) {r s : RowL} (h : r.Perm s) : rowSum f r = rowSum f s := by
  induction h with
  | nil => rfl
  | cons x _ ih => simp only [rowSum, List.map_cons, List.sum_cons] at ih ⊢; rw [ih]
  | swap x y l => simp only [rowSum, List.map_cons, List.sum_cons]; omega
  | trans _ _ ih1 ih2 => exact ih1.trans ih2
theorem rowSum_cons (f : Int → Int) (q : Int × Int) (r : RowL) : rowSum f (q :: r) = q.2 * f q.1 + rowSum f r := rfl
theorem rowSum_del (f : Int → Int) {r : RowL} (hn : (r.map (·.1)).Nodup) {x v : Int} (h : (x, v) ∈ r) : rowSum f r = v * f x + rowSum f (mdel r x) := by
  rw [rowSum_perm f (mdel_perm hn h), rowSum_cons]
theorem rowSum_bd (f : Int → Int) (hf : ∀ a, 0 ≤ f a ∧ f a ≤ 1048576) : ∀ r : RowL, (∀ q ∈ r, 0 < q.2) → 0 ≤ rowSum f r ∧ rowSum f r ≤ 1048576 * rowSum (fun _ => 1) r
  | [], _ => by simp [rowSum]
  | q :: r, h => by
    have ih := rowSum_bd f hf r (fun z hz => h z (by simp [hz]))
    have h0 := h q (by simp)
    have hq := hf q.1
    have e1 : rowSum f (q :: r) = q.2 * f q.1 + rowSum f r := rfl
    have e2 : rowSum (fun _ => 1) (q :: r) = q.2 * 1 + rowSum (fun _ => 1) r := rfl
    have m1 : 0 ≤ q.2 * f q.1 := Int.mul_nonneg (by omega) hq.1
    have m2 : q.2 * f q.1 ≤ q.2 * 1048576 := Int.mul_le_mul_of_nonneg_left hq.2 (by omega)
    rw [e1, e2]
    omega

theorem mdel_sub {κ υ : Type} [DecidableEq κ] {l : List (κ × υ)} {x : κ} {p : κ × υ} (h : p ∈ mdel l x) : p ∈ l := (List.mem_filter.1 h).1

/-- The count of a key at a now. -/
def cntV (hf : Int) (hist : List AddD) (key : ByteArray) (now : Int) : Int := if now < 0 then 0 else histSum (fun a => wtV (now - a) hf) key hist

theorem DecInv.sum_bd {S : KeysL} {R : Nat → RowL} {hist : List AddD} {cnt : Int} (h : DecInv S R hist cnt) (f : Int → Int) (hf : ∀ a, 0 ≤ f a ∧ f a ≤ 1048576) (key : ByteArray) : 0 ≤ histSum f key hist ∧ histSum f key hist ≤ 1152921504606846976 := by
  have h1 := h.eqs key f
  have h2 := h.eqs key (fun _ => 1)
  have hp : ∀ q ∈ mrow S R key, 0 < q.2 := by
    intro q hq
    unfold mrow at hq
    cases hg : mget S key with
    | none => rw [hg] at hq; simp at hq
    | some b => rw [hg] at hq; exact (h.pos _ (mget_some_mem hg) q hq).1
  have h3 := rowSum_bd f hf _ hp
  have h4 := histSum_le key hist h.good
  have h5 := h.total
  have h6 := h.cnt0
  omega

def DAt (w : World) (v : Int) (e : Ending) (w' : World) : Prop := e = .returned (.int .i64 v) ∧ Below w.heap.size w w'

set_option maxRecDepth 20000 in
set_option maxHeartbeats 1000000 in
theorem dat_row (cb : Nat) (hf : Int) (key : ByteArray) (now : Int) (w : World) (c0 : w.cell? ⟨cb, 0, none⟩ = some (.int .i64 hf)) (bs : Nat) (c2 : w.cell? ⟨cb, 2, none⟩ = some (.map (some bs))) (hcb : cb < w.heap.size) (mb : Option Nat) (r : RowL)
    (hlo : (Instr.lookup 50 (.map (some bs)) (.string key) false).run Try.prog w = .ok (.map mb) w)
    (hr : (∃ b, mb = some b ∧ MapIs w intVf intVf intOk b r) ∨ (mb = none ∧ r = []))
    (hpos : ∀ q ∈ r, 0 < q.2 ∧ 0 ≤ q.1 ∧ q.1 ≤ 1099511627776) (hT : rowSum (fun a => wtV (now - a) hf) r ≤ 1152921504606846976) (n0 : 0 ≤ now) (n1 : now ≤ 9223372036854775807) :
    Calls Try.prog 15 #[.pointer (some ⟨cb, 0, none⟩), .string key, .int .i64 now] w (DAt w (rowSum (fun a => wtV (now - a) hf) r)) := by
  have hf0 : ∀ a, 0 ≤ wtV (now - a) hf ∧ wtV (now - a) hf ≤ 1048576 := fun a => wtV_bd _ _
  generalize hTT : rowSum (fun a => wtV (now - a) hf) r = T at hT ⊢
  have HT := Lib.hid hTT
  have HR := Lib.hid hr
  have HP := Lib.hid hpos
  have HF := Lib.hid hf0
  clear hTT hr hpos hf0
  go_enter Try.func15, Try.ntmps15
  have key0 : ∀ (o : Oper) (ops : Array Oper) (rest : List Oper) (a : Act) (Q : Exit → Act → World → Prop), o.guard = none → o.op = Op.range 54 (.tmp 18) → a.eval (.tmp 18) = .map mb →
      (∀ w', RangeAt w' intVf intVf w.heap.size mb r → Below w.heap.size w w' → w'.heap.size = w.heap.size + 1 → wpList Try.prog ops Q rest (a.put o.dst (.pointer (some ⟨w.heap.size, 0, none⟩))) w') → wpList Try.prog ops Q (o :: rest) a w := by
    intro o ops rest a Q h1 h2 h3 h4
    rcases HR.out with ⟨b, rfl, hm⟩ | ⟨rfl, rfl⟩
    · exact wpList_range_is h1 _ _ h2 Try.underlying54 h3 hm h4
    · exact wpList_range_none _ _ h1 _ _ h2 Try.underlying54 h3 h4
  have KEY := Lib.hid key0
  clear key0
  go_wp2_with (at_range; refine KEY.out _ _ _ _ _ rfl rfl rfl ?_; intro w0 hrg0 hb0 hs0)
  have hk0 := bcell hb0
  clear KEY hs0
  go_frame
  go_loopg [7] r.length (fun rest s wr => ∃ (left : RowL) (acc : Int), s = .int .i64 acc ∧ RangeAt wr intVf intVf w.heap.size mb left ∧ Hid (acc + rowSum (fun a => wtV (now - a) hf) left = T) ∧ 0 ≤ acc ∧ Hid (∀ q ∈ left, q ∈ r) ∧ Hid (rest = left.length) ∧ Below w.heap.size w wr)
  case atStart => exact ⟨r, 0, rfl, hrg0, Lib.hid (by rw [HT.out]; omega), Int.le_refl _, Lib.hid (fun _ h => h), Lib.hid rfl, hb0⟩
  case round =>
    obtain ⟨left, acc, rfl, hrg, HA, ha0, HS, HL, hb⟩ := hrel
    obtain ⟨hc1, hc2⟩ := bcell hb
    clear hk0
    have d0 := (hc1 cb 0 hcb).trans c0
    clear hc1 hc2
    go_wp2_with (at_next; refine wpList_next_is rfl _ rfl rfl hrg ?_ ?_)
    · intro h0
      subst h0
      have hA := HA.out
      have hz : rowSum (fun a => wtV (now - a) hf) [] = 0 := rfl
      rw [hz, Int.add_zero] at hA
      have HA2 := Lib.hid hA
      clear hA hz HA
      (try go_frame)
      go_wp2
      go_ret
      exact ⟨ret_int HA2.out, hb⟩
    · intro x v w2 hm hrg2 hk2 hz2 hen
      have hx := HP.out _ (HS.out _ hm)
      have hw := HF.out x
      have e1 := rowSum_del (fun a => wtV (now - a) hf) hrg.nodup hm
      have hB := rowSum_bd (fun a => wtV (now - a) hf) HF.out (mdel left x) (fun q hq => (HP.out _ (HS.out _ (mdel_sub hq))).1)
      have hA := HA.out
      have hml : (mdel left x).length + 1 = left.length := mdel_len hrg.nodup (p := (x, v)) hm
      have hmul : 0 ≤ v * wtV (now - x) hf := Int.mul_nonneg (by simp at hx; omega) hw.1
      have hacc : acc + v * wtV (now - x) hf ≤ T := by rw [e1] at hA; (try simp only at hA hB); omega
      have HA2 : Hid (acc + v * wtV (now - x) hf + rowSum (fun a => wtV (now - a) hf) (mdel left x) = T) := Lib.hid (by rw [e1] at hA; (try simp only at hA); omega)
      have HS2 : Hid (∀ q ∈ mdel left x, q ∈ r) := Lib.hid (fun q hq => HS.out _ (mdel_sub hq))
      have HML := Lib.hid hml
      have d2 : w2.cell? ⟨cb, 0, none⟩ = some (.int .i64 hf) := by
        rw [hk2.cell (by have := hb.size; show cb < _; omega) (by show ¬ cb = _; omega)]
        exact d0
      have hb2 : Below w.heap.size w w2 := hb.trans (hk2.toBelow hb.size (fun k hk => by omega))
      simp only [intVf] at hen
      simp only at hx
      obtain ⟨x1, x2, x3⟩ := hx
      have hwt := dweight_any (now - x) hf
      generalize wtV (now - x) hf = wt at *
      obtain ⟨w1', w2'⟩ := hw
      clear e1 hA hml hB hk2 hz2 d0 hb HS HA hm
      (try go_frame)
      go_wp2_with (go_at_call 10; refine (hwt _ (by omega)).mono ?_; rintro e w' ⟨rfl, rfl⟩)
      go_roundg (gk - 1)
      case measure => have := HL.out; have := HML.out; omega
      case rel => exact ⟨mdel left x, _, rfl, hrg2, HA2, by omega, HS2, Lib.hid (by have := HL.out; have := HML.out; omega), hb2⟩
set_option maxHeartbeats 400000 in
theorem dat_any (cb : Nat) (F : Nat → Prop) (hf cnt : Int) (hist : List AddD) (key : ByteArray) (now : Int) (w : World) (h : DecObj w cb F hf cnt hist) (hk : key.size ≤ maxLen) (n1 : now ≤ 9223372036854775807) :
    Calls Try.prog 15 #[.pointer (some ⟨cb, 0, none⟩), .string key, .int .i64 now] w (DAt w (cntV hf hist key now)) := by
  by_cases n0 : now < 0
  · have e : cntV hf hist key now = 0 := by unfold cntV; rw [if_pos n0]
    rw [e]
    clear e h
    go_enter Try.func15, Try.ntmps15
    go_wp2
    go_ret
    exact ⟨rfl, Below.refl _ _⟩
  · obtain ⟨bs, S, R, hP, hI, rfl, hh⟩ := h
    have e : cntV hf hist key now = rowSum (fun a => wtV (now - a) hf) (mrow S R key) := by unfold cntV; rw [if_neg n0, hI.eqs]
    have hb := hI.sum_bd (fun a => wtV (now - a) hf) (fun a => wtV_bd _ _) key
    rw [← hI.eqs] at hb
    rw [e]
    obtain ⟨c0, c1, c2⟩ := cell_of_dec hP
    have hlo := look_out hP.sums hk
    refine dat_row cb hf key now w c0 bs c2 (hP.foot_lt cb (.inl rfl)) (mget S key) (mrow S R key) hlo ?_ ?_ hb.2 (by omega) n1
    · cases hg : mget S key with
      | none => exact .inr ⟨rfl, by simp [mrow, hg]⟩
      | some b => exact .inl ⟨b, rfl, by have := hP.rows _ (mget_some_mem hg); simpa [mrow, hg] using this⟩
    · intro q hq
      unfold mrow at hq
      cases hg : mget S key with
      | none => rw [hg] at hq; simp at hq
      | some b => rw [hg] at hq; exact hI.pos _ (mget_some_mem hg) q hq
end Go.Proofs.Ytgahopkbgefjdaa
