/- Equality of rises and fractions; the statements' helper awake. -/
import Derived.Test.YtbfjknpljkmgjaaRisD
import Derived.Test.YtbfjknpljkmgjaaRsLb
import Derived.Laws.StructEq
import Derived.ChangeKeysEq
namespace Go.Proofs.Ytbfjknpljkmgjaa
open Go.ChangeShapes Go.WideShapes Go.ChangeAt Go.RowKit Go.Shelf Go.Lib Go.Sort Go.Proofs
set_option linter.unusedVariables false
set_option linter.unusedSimpArgs false

theorem eql_ratio (a b c d : Int) (w : World) : (binOp .eql 36 (.agg #[.int .i64 a, .int .i64 b]) (.agg #[.int .i64 c, .int .i64 d])).run Try.prog w = .ok (.bool (a == c && b == d)) w := by
  have hS : Try.prog.underlying 36 = some (.struct (Try.prog.fieldsOf 36)) := by kernel_rfl
  have hp : Try.prog.stoodInHeld 36 = false := by kernel_rfl
  have p0 := fun (v : Value) (xs : Array Value) (h : xs[0]? = some v) => run_part_plain (P := Try.prog) (w := w) (e := 2) (by kernel_rfl) h
  have p1 := fun (v : Value) (xs : Array Value) (h : xs[1]? = some v) => run_part_plain (P := Try.prog) (w := w) (e := 2) (by kernel_rfl) h
  have i := fun (d : Nat) (a b : Int) => run_equalIn_int (P := Try.prog) w d 2 .i64 .i64 a b Try.underlying2
  rw [run_eql_struct, run_equalIn_agg w 9999 _ _ _ hS hp]
  simp only [Program.fieldsOf, Try.underlying36, Op.eqFields]
  cases h1 : a == c <;> cases h2 : b == d <;> simp [Op.eqFields, p0, p1, i, h1, h2, Result.andThen]
theorem eql_rise (k l : ByteArray) (a b c d : Int) (w : World) : (binOp .eql 34 (.agg #[.string k, .int .i64 a, .int .i64 b]) (.agg #[.string l, .int .i64 c, .int .i64 d])).run Try.prog w = .ok (.bool (k.toList == l.toList && (a == c && b == d))) w := by
  have hS : Try.prog.underlying 34 = some (.struct (Try.prog.fieldsOf 34)) := by kernel_rfl
  have hp : Try.prog.stoodInHeld 34 = false := by kernel_rfl
  have p0 := fun (v : Value) (xs : Array Value) (h : xs[0]? = some v) => run_part_plain (P := Try.prog) (w := w) (e := 9) (by kernel_rfl) h
  have p1 := fun (v : Value) (xs : Array Value) (h : xs[1]? = some v) => run_part_plain (P := Try.prog) (w := w) (e := 2) (by kernel_rfl) h
  have p2 := fun (v : Value) (xs : Array Value) (h : xs[2]? = some v) => run_part_plain (P := Try.prog) (w := w) (e := 2) (by kernel_rfl) h
  have i := fun (d : Nat) (a b : Int) => run_equalIn_int (P := Try.prog) w d 2 .i64 .i64 a b Try.underlying2
  have j := fun (d : Nat) (a b : ByteArray) => run_equalIn_string (P := Try.prog) w d 9 a b Try.underlying9
  rw [run_eql_struct, run_equalIn_agg w 9999 _ _ _ hS hp]
  simp only [Program.fieldsOf, Try.underlying34, Op.eqFields]
  cases h0 : k.toList == l.toList <;> cases h1 : a == c <;> cases h2 : b == d <;> simp [Op.eqFields, p0, p1, p2, i, j, h0, h1, h2, Result.andThen]

theorem only_one {α : Type} {l : List α} {x : α} (hn : l.Nodup) (h : ∀ y, y ∈ l ↔ y = x) : l = [x] := by
  cases l with
  | nil => exact absurd ((h x).2 rfl) (by simp)
  | cons a l =>
    have ha : a = x := (h a).1 (by simp)
    subst ha
    cases l with
    | nil => rfl
    | cons b l =>
      have hb : b = a := (h b).1 (by simp)
      subst hb
      simp at hn
theorem riseLt_nodup {l : List RiseV} (h : l.Pairwise (fun x y => riseLt x y = true)) : l.Nodup := h.imp (fun {x y} h e => by subst e; rw [riseLt_irr] at h; cases h)

def aS : ByteArray := ⟨#[97]⟩
def aHist : List AddD := [⟨aS, 0, 1⟩, ⟨aS, 10, 4⟩, ⟨aS, 20, 9⟩]
theorem awake_rises {rs : List RiseV} (h : RisesOf 10 aHist 10 25 1 rs) : rs = [⟨aS, 4, 1⟩] := by
  unfold RisesOf at h
  rw [if_pos (by decide)] at h
  refine only_one (riseLt_nodup h.1) (fun r => ?_)
  rw [h.2]
  constructor
  · rintro ⟨h1, h2, _⟩
    have hk : r.key = aS := by
      have hn : r.new = histTot 10 aHist r.key ((begB 10 25 - 10) / 10) (begB 10 25 / 10) := congrArg RiseV.new h1
      obtain ⟨a, ha, e, _⟩ := histTot_key (wd := 10) (hist := aHist) (key := r.key) (lo := (begB 10 25 - 10) / 10) (hi := begB 10 25 / 10) (by omega)
      simp [aHist] at ha
      rcases ha with rfl | rfl | rfl <;> exact e.symm
    rw [h1, hk]
    decide
  · rintro rfl
    exact ⟨by decide, by decide, by decide⟩

set_option maxRecDepth 20000 in
set_option maxHeartbeats 2000000 in
theorem awake_any (w : World) : Calls Try.prog 12 #[] w fun e w' => e = .returned (.bool true) ∧ Below w.heap.size w w' := by
  have HW : Hid (widthOf 10 = 10) := Lib.hid (by decide)
  have HA1 : Hid (addB ⟨#[97]⟩ 0 1 ([] : List AddD).length = true) := Lib.hid (by decide)
  have HA2 : Hid (addB ⟨#[97]⟩ 10 4 [(⟨⟨#[97]⟩, 0, 1⟩ : AddD)].length = true) := Lib.hid (by decide)
  have HA3 : Hid (addB ⟨#[97]⟩ 20 9 [(⟨⟨#[97]⟩, 0, 1⟩ : AddD), ⟨⟨#[97]⟩, 10, 4⟩].length = true) := Lib.hid (by decide)
  go_enter Try.func12, Try.ntmps12
  go_wp2_with fail
  refine (pnew_any 10 _).mono ?_
  rintro e w1 ⟨pb, F1, rfl, hp1, hF1, hb1⟩
  rw [HW.out] at hp1
  go_wp2_with fail
  refine (padd_any pb F1 10 [] ⟨#[97]⟩ 0 1 w1 hp1).mono ?_
  rw [HA1.out]
  rintro e w2 ⟨rfl, F2, hp2, hk2, hf2⟩
  have hb2 : Below w.heap.size w w2 := hb1.trans (hk2.toBelow hb1.size hF1)
  have hF2 : ∀ k, F2 k → w.heap.size ≤ k := fun k hk => by rcases hf2 k hk with h | h; exact hF1 k h; have := hb1.size; omega
  simp only [if_true, List.nil_append] at hp2
  clear hk2 hf2 hp1 hF1 hb1
  go_wp2_with fail
  refine (padd_any pb F2 10 _ ⟨#[97]⟩ 10 4 w2 hp2).mono ?_
  rw [HA2.out]
  rintro e w3 ⟨rfl, F3, hp3, hk3, hf3⟩
  have hb3 : Below w.heap.size w w3 := hb2.trans (hk3.toBelow hb2.size hF2)
  have hF3 : ∀ k, F3 k → w.heap.size ≤ k := fun k hk => by rcases hf3 k hk with h | h; exact hF2 k h; have := hb2.size; omega
  simp only [if_true, List.cons_append, List.nil_append] at hp3
  clear hk3 hf3 hp2 hF2 hb2
  go_wp2_with fail
  refine (padd_any pb F3 10 _ ⟨#[97]⟩ 20 9 w3 hp3).mono ?_
  rw [HA3.out]
  rintro e w4 ⟨rfl, F4, hp4, hk4, hf4⟩
  have hb4 : Below w.heap.size w w4 := hb3.trans (hk4.toBelow hb3.size hF3)
  simp only [if_true, List.cons_append, List.nil_append] at hp4
  clear hk4 hf4 hp3 hF3 hb3
  have q := rof_any pb F4 10 aHist 10 25 1 w4 hp4
  have Q := Lib.hid q
  have hz4 := hb4.size
  clear q hp4
  go_wp2_with fail
  refine Q.out.mono ?_
  rintro e w5 ⟨A, c, rs, rfl, hrs, hown, hb5, _⟩
  have hr1 := awake_rises hrs
  subst hr1
  obtain ⟨b, o, rfl, hbl, hc⟩ := (Reads.of_own hown).2 (by decide)
  have k0 : w5.cell? ⟨b, o, none⟩ = some (.string ⟨#[97]⟩) := hc 0 _ rfl
  have k1 : w5.cell? ⟨b, o + 1, none⟩ = some (.int .i64 4) := hc 1 _ rfl
  have k2 : w5.cell? ⟨b, o + 1 + 1, none⟩ = some (.int .i64 1) := hc 2 _ rfl
  have k3 : w5.cell? ⟨b, o + 2, none⟩ = some (.int .i64 1) := hc 2 _ rfl
  have e1 := eql_rise ⟨#[97]⟩ ⟨#[97]⟩ 4 1 4 1
  have e2 := eql_ratio 4 2 4 2
  have hbb : Below w.heap.size w w5 := hb4.trans (hb5.mono hz4)
  have q2 := fun W => ratio_any ⟨#[97]⟩ 4 1 (by omega) W
  have r1 : ratNum 4 1 = 4 := by decide
  have r2 : ratDen 4 1 = 2 := by decide
  rw [r1, r2] at q2
  have Q2 := Lib.hid q2
  clear q2 r1 r2 hc hown hrs Q
  go_wp2_with fail
  refine (Q2.out _).mono ?_
  rintro e w6 ⟨rfl, hg⟩
  have hb6 : Below w.heap.size w w6 := hbb.trans (hg.below.mono hbb.size)
  go_wp2
  go_ret
  exact ⟨rfl, hb6⟩
end Go.Proofs.Ytbfjknpljkmgjaa
