/- Rows of rises that are one; the reference's Same. -/
import Derived.Test.YtbfjknpljkmgjaaRisG
namespace Go.Proofs.Ytbfjknpljkmgjaa
open Go.ChangeShapes Go.WideShapes Go.ChangeAt Go.RowKit Go.Shelf Go.Lib Go.Sort Go.Proofs
set_option linter.unusedVariables false
set_option linter.unusedSimpArgs false

theorem neq_rise (k l : ByteArray) (a b c d : Int) (w : World) : (binOp .neq 34 (.agg #[.string k, .int .i64 a, .int .i64 b]) (.agg #[.string l, .int .i64 c, .int .i64 d])).run Try.prog w = .ok (.bool (!(k.toList == l.toList && (a == c && b == d)))) w := by
  have h := eql_rise k l a b c d w
  rw [run_eql_struct] at h
  rw [run_neq_struct]
  cases hq : (Op.equalIn 10000 34 (.agg #[.string k, .int .i64 a, .int .i64 b]) (.agg #[.string l, .int .i64 c, .int .i64 d])).run Try.prog w with
  | ok v w1 =>
    rw [hq] at h
    simp [Result.andThen] at h ⊢
    obtain ⟨h1, h2⟩ := h
    subst h2
    simp [h1]
  | halt x w1 =>
    rw [hq] at h
    simp [Result.andThen] at h

theorem rises_unique {ms ns : List RiseV} (h1 : ms.Pairwise (fun x y => riseLt x y = true)) (h2 : ns.Pairwise (fun x y => riseLt x y = true)) (o1 : ∀ r ∈ ms, RiseOk r) (hm : ∀ r, r ∈ ms ↔ r ∈ ns) : ms = ns := by
  obtain ⟨L, rfl⟩ := okRise_map ms o1
  obtain ⟨M, rfl⟩ := okRise_map ns (fun r hr => o1 r ((hm r).2 hr))
  have n1 := riseLt_nodup h1
  have n2 := riseLt_nodup h2
  rw [List.pairwise_map] at h1 h2
  have : L = M := by
    refine sorted_unique (ltOf okCmp) okLt_irr okLt_tr (perm_of_mem (nodup_of_map _ n1) (nodup_of_map _ n2) (fun x => ?_)) h1 h2
    have := hm x.1
    rw [List.mem_map, List.mem_map] at this
    constructor
    · intro hx
      obtain ⟨y, hy, e⟩ := this.1 ⟨x, hx, rfl⟩
      have : y = x := Subtype.ext e
      rw [← this]; exact hy
    · intro hx
      obtain ⟨y, hy, e⟩ := this.2 ⟨x, hx, rfl⟩
      have : y = x := Subtype.ext e
      rw [← this]; exact hy
  rw [this]

/-- A greater floor leaves just those that reach it. -/
theorem rises_floor {w : World} {pb : Nat} {F : Nat → Prop} {wd span now floor more : Int} {hist : List AddD} {rs ms : List RiseV} (hO : PaneObj w pb F wd hist) (hmore : 0 ≤ more) (h : RisesOf wd hist span now floor rs) (h' : RisesOf wd hist span now (floor + more) ms) : ms = rs.filter (fun r => decide (floor + more ≤ r.new)) := by
  have f1 := RisesOf.facts hO h
  have f2 := RisesOf.facts hO h'
  unfold RisesOf at h h'
  by_cases hB : ofB wd span now = true
  · rw [if_pos hB] at h h'
    refine rises_unique f2.1 (f1.1.sublist List.filter_sublist) (fun r hr => (f2.2 r hr).1) (fun r => ?_)
    rw [h'.2, List.mem_filter, h.2]
    simp only [decide_eq_true_eq]
    constructor
    · rintro ⟨a, b, c⟩; exact ⟨⟨a, b, by omega⟩, c⟩
    · rintro ⟨⟨a, b, c⟩, d⟩; exact ⟨a, b, d⟩
  · rw [if_neg hB] at h h'
    subst h h'
    rfl
theorem rises_same {w : World} {pb : Nat} {F : Nat → Prop} {wd span now floor : Int} {hist : List AddD} {rs ms : List RiseV} (hO : PaneObj w pb F wd hist) (h : RisesOf wd hist span now floor rs) (h' : RisesOf wd hist span now floor ms) : ms = rs := by
  have f1 := RisesOf.facts hO h
  have f2 := RisesOf.facts hO h'
  unfold RisesOf at h h'
  by_cases hB : ofB wd span now = true
  · rw [if_pos hB] at h h'
    exact rises_unique f2.1 f1.1 (fun r hr => (f2.2 r hr).1) (fun r => by rw [h'.2, h.2])
  · rw [if_neg hB] at h h'
    rw [h, h']

set_option maxRecDepth 20000 in
set_option maxHeartbeats 2000000 in
theorem rsame_any (A A' : Option Addr) (c c' : Nat) (rs : List RiseV) (w : World) (h : RisesAt w w.heap.size A rs) (h' : RisesAt w w.heap.size A' rs) (hl : (rs.length : Int) ≤ 1048576) :
    Calls Try.prog 14 #[.slice A rs.length c, .slice A' rs.length c'] w fun e w' => e = .returned (.bool true) ∧ Below w.heap.size w w' := by
  have hne : ((rs.length : Int) != (rs.length : Int)) = false := by simp
  go_enter Try.func14, Try.ntmps14
  go_wp2_with fail
  go_loopg [5] rs.length (fun rest i wr => ∃ k : Nat, i = .int .i64 k ∧ Hid (k + rest = rs.length) ∧ Below w.heap.size w wr)
  case atStart => exact ⟨0, rfl, Lib.hid (by simp), Below.refl _ _⟩
  case round =>
    obtain ⟨k, rfl, HK, hb⟩ := hrel
    by_cases hk : (k : Int) < (rs.length : Int)
    · have hkl : k < rs.length := by omega
      obtain ⟨b, o, rfl, hbl, c1, c2, c3⟩ := (h.below hb).one hkl
      obtain ⟨b', o', rfl, hbl', d1, d2, d3⟩ := (h'.below hb).one hkl
      generalize rs[k] = y at *
      have c3' : wr.cell? ⟨b, o + k * 3 + 2, none⟩ = some (.int .i64 y.old) := c3
      have d3' : wr.cell? ⟨b', o' + k * 3 + 2, none⟩ = some (.int .i64 y.old) := d3
      have q := neq_rise y.key y.key y.new y.old y.new y.old
      have e : (!(y.key.toList == y.key.toList && (y.new == y.new && y.old == y.old))) = false := by simp
      rw [e] at q
      clear e
      go_wp2_with fail
      go_quiet (fail)
      go_wp2
      go_roundg (gk - 1)
      case measure => have := HK.out; omega
      case rel => exact ⟨k + 1, by go_num, Lib.hid (by have := HK.out; omega), below_drewN hb _⟩
    · go_wp2
      go_ret
      exact ⟨rfl, hb⟩
end Go.Proofs.Ytbfjknpljkmgjaa
