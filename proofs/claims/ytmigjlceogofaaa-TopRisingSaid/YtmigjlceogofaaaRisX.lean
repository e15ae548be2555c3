/- Rises in memory and in order; for the top statements. -/
import Derived.Test.YtmigjlceogofaaaRisD
import Derived.Test.YtmigjlceogofaaaKitT
namespace Go.Proofs.Ytmigjlceogofaaa
open Go.ChangeShapes Go.WideShapes Go.ChangeAt Go.RowKit Go.Shelf Go.Lib Go.Sort Go.Proofs
set_option linter.unusedVariables false
set_option linter.unusedSimpArgs false

def RisesAt (w : World) (B : Nat) (A : Option Addr) (l : List RiseV) : Prop := Reads w B 3 A l.length (l.flatMap riseEnc)
theorem RisesAt.one {w : World} {B : Nat} {A : Option Addr} {l : List RiseV} (h : RisesAt w B A l) {k : Nat} (hk : k < l.length) :
    ∃ b o, A = some ⟨b, o, none⟩ ∧ b < B ∧ w.cell? ⟨b, o + k * 3, none⟩ = some (.string l[k].key) ∧ w.cell? ⟨b, o + k * 3 + 1, none⟩ = some (.int .i64 l[k].new) ∧ w.cell? ⟨b, o + k * 3 + 1 + 1, none⟩ = some (.int .i64 l[k].old) := by
  obtain ⟨b, o, e, hb, hc⟩ := h.2 (by omega)
  have f := fun j (hj : j < 3) => flat_getE (e := riseEnc) (k := 3) (fun _ => rfl) l k j hk hj
  refine ⟨b, o, e, hb, ?_, ?_, ?_⟩
  · have := hc (k * 3 + 0) _ (by rw [f 0 (by omega)]; rfl)
    simpa using this
  · have := hc (k * 3 + 1) _ (by rw [f 1 (by omega)]; rfl)
    simpa [Nat.add_assoc] using this
  · have := hc (k * 3 + 2) _ (by rw [f 2 (by omega)]; rfl)
    simpa [Nat.add_assoc] using this
theorem RisesAt.below {w w' : World} {B : Nat} {A : Option Addr} {l : List RiseV} (h : RisesAt w B A l) (hb : Below B w w') : RisesAt w' B A l := Reads.below h hb
theorem RisesOf.facts {w : World} {pb : Nat} {F : Nat → Prop} {wd span now floor : Int} {hist : List AddD} {rs : List RiseV} (hO : PaneObj w pb F wd hist) (h : RisesOf wd hist span now floor rs) :
    rs.Pairwise (fun x y => riseLt x y = true) ∧ ∀ r ∈ rs, RiseOk r ∧ floor ≤ r.new := by
  unfold RisesOf at h
  by_cases hB : ofB wd span now = true
  · rw [if_pos hB] at h
    refine ⟨h.1, fun r hr => ?_⟩
    obtain ⟨h1, h2, h3⟩ := (h.2 r).1 hr
    refine ⟨?_, h3⟩
    rw [h1]
    refine riseOf_ok hO span _ ?_
    have : r.new = histTot wd hist r.key ((begB wd now - span) / wd) (begB wd now / wd) := congrArg RiseV.new h1
    omega
  · rw [if_neg hB] at h
    subst h
    simp
theorem ahead_facts {a r : RiseV} (h : riseLt a r = true) : cmpInt (a.new * (r.old + 1)) (r.new * (a.old + 1)) = 1 ∨ (cmpInt (a.new * (r.old + 1)) (r.new * (a.old + 1)) = 0 ∧ (r.new < a.new ∨ (a.new = r.new ∧ sLt a.key r.key = true))) := by
  rw [riseLt_iff] at h
  rcases cmpInt_cases (a.new * (r.old + 1)) (r.new * (a.old + 1)) with ⟨h1, e1⟩ | ⟨h1, e1⟩ | ⟨h1, e1⟩
  · exfalso; omega
  · right
    refine ⟨e1, ?_⟩
    rcases h with h | ⟨_, h | ⟨h, h'⟩⟩
    · omega
    · exact .inl h
    · exact .inr ⟨h.symm, h'⟩
  · exact .inl e1
theorem riseLt_nodup {l : List RiseV} (h : l.Pairwise (fun x y => riseLt x y = true)) : l.Nodup := h.imp (fun {x y} h e => by subst e; rw [riseLt_irr] at h; cases h)
theorem begB_bd {wd now : Int} (hw : 1 ≤ wd) (h0 : 0 ≤ now) : 0 ≤ begB wd now ∧ begB wd now ≤ now := by
  unfold begB
  have hm1 := Int.emod_nonneg now (show wd ≠ 0 by omega)
  have := Int.mul_ediv_add_emod now wd
  have h2 : 0 ≤ wd * (now / wd) := Int.mul_nonneg (by omega) (Int.ediv_nonneg h0 (by omega))
  omega
theorem begB_mod {wd now : Int} (hw : 1 ≤ wd) : begB wd now % wd = 0 := by
  unfold begB
  rw [Int.sub_emod, Int.emod_emod_of_dvd _ (Int.dvd_refl _)]
  simp
end Go.Proofs.Ytmigjlceogofaaa
