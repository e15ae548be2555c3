/- Steps through a region that draws its order, in one order, for guards that are known; what holds ahead of each operation need not hold behind the last one. Lemmas over any program. -/
import Derived.Test.YtaollcpoibgblaaDoorKitA
import Derived.Deep.RegionHeld3
import Derived.Deep.DrawnRows
namespace Go.Proofs.YtaollcpoibgblaaDoor
open Go.ChangeShapes Go.WideShapes Go.ChangeAt Go.RowKit

section
variable {P : Program} {md : Region.Mode} {ops : Array Oper} {Q : Exit → Act → World → Prop} {L : Nat} {S : World → Prop}

/-- Whatever order is picked from here on; S holds behind every operation but number L. -/
def wpAnyL (P : Program) (md : Region.Mode) (ops : Array Oper) (Q : Exit → Act → World → Prop) (L : Nat) (S : World → Prop) : Nat → Array Bool → Act → World → Prop
  | 0, listed, a, w => Region.ready md ops listed = [] ∧ Q .normal a w
  | fuel + 1, listed, a, w =>
    (Region.ready md ops listed = [] → Q .normal a w) ∧
    ∀ i ∈ Region.ready md ops listed, wpOp P ops Q i (fun a' w' => (i ≠ L → S w') ∧ wpAnyL P md ops Q L S fuel (listed.setIfInBounds i true) a' w') a w

theorem wpAny_of_last : ∀ (fuel : Nat) (listed : Array Bool) (a : Act) (w : World), wpAnyL P md ops Q L S fuel listed a w → wpAny P md ops Q fuel listed a w
  | 0, _, _, _, h => h
  | fuel + 1, _, _, _, h => ⟨h.1, fun i hi => wpOp_mono (fun a' w' h' => wpAny_of_last fuel _ a' w' h'.2) (h.2 i hi)⟩

/-- Operation k waits for j, itself or through others that it waits for. -/
def anc (md : Region.Mode) (ops : Array Oper) : Nat → Nat → Nat → Bool
  | 0, _, _ => false
  | fuel + 1, k, j =>
    match ops[k]? with
    | none => false
    | some o => o.after.any (fun e => Region.binds md e && e.on == j) || o.after.any (fun e => Region.binds md e && anc md ops fuel e.on j)
/-- What is listed waits for nothing that isn't. -/
def closedB (md : Region.Mode) (ops : Array Oper) (listed : Array Bool) : Bool :=
  (List.range ops.size).all fun k => !listed.getD k false || match ops[k]? with
    | none => true
    | some o => o.after.all (fun e => !Region.binds md e || listed.getD e.on false)
def Closed (md : Region.Mode) (ops : Array Oper) (listed : Array Bool) : Prop := ∀ (k : Nat) (o : Oper), ops[k]? = some o → listed.getD k false = true → ∀ e ∈ o.after, Region.binds md e = true → listed.getD e.on false = true
theorem closed_spec {listed : Array Bool} (h : closedB md ops listed = true) : Closed md ops listed := fun k o ho hl e he hb => by
  simp only [closedB, List.all_eq_true, List.mem_range] at h
  have h1 := h k (Array.getElem?_eq_some_iff.1 ho).1
  rw [hl, ho] at h1
  simp only [Bool.not_true, Bool.false_or, Array.all_eq_true'] at h1
  have h2 := h1 e he
  rw [hb] at h2
  simpa using h2
theorem Closed.step {listed : Array Bool} {j : Nat} (h : Closed md ops listed) (hj : j ∈ Region.ready md ops listed) : Closed md ops (listed.setIfInBounds j true) := by
  intro k o ho hl e he hb
  have keep : ∀ x, listed.getD x false = true → (listed.setIfInBounds j true).getD x false = true := fun x hx => by
    by_cases e : j = x
    · subst e
      have : j < listed.size := by
        rcases Nat.lt_or_ge j listed.size with h' | h'
        · exact h'
        · simp [Array.getElem?_eq_none h'] at hx
      simp [this]
    · rw [getD_set_ne false e]; exact hx
  by_cases hk : j = k
  · subst hk
    obtain ⟨_, oj, hoj, hall⟩ := mem_ready.1 hj
    rw [ho] at hoj
    injection hoj with hoj
    subst hoj
    exact keep _ (hall e he hb)
  · rw [getD_set_ne false hk] at hl
    exact keep _ (h k o ho hl e he hb)
theorem anc_spec {listed : Array Bool} (h : Closed md ops listed) : ∀ (fuel k j : Nat), anc md ops fuel k j = true → listed.getD k false = true → listed.getD j false = true
  | 0, _, _, ha, _ => by simp [anc] at ha
  | fuel + 1, k, j, ha, hl => by
    unfold anc at ha
    split at ha
    · cases ha
    · rename_i o ho
      rw [Bool.or_eq_true] at ha
      rcases ha with ha | ha
      · obtain ⟨e, he, hb⟩ := Array.any_eq_true'.1 ha
        simp only [Bool.and_eq_true, beq_iff_eq] at hb
        have := h k o ho hl e he hb.1
        rwa [hb.2] at this
      · obtain ⟨e, he, hb⟩ := Array.any_eq_true'.1 ha
        simp only [Bool.and_eq_true] at hb
        exact anc_spec h fuel e.on j hb.2 (h k o ho hl e he hb.1)

/-- Operation L waits for all others. -/
def lastOk (md : Region.Mode) (ops : Array Oper) (L : Nat) : Bool :=
  match ops[L]? with
  | none => true
  | some _ => (List.range ops.size).all fun j => j == L || anc md ops 3 L j
theorem lastOk_spec (h : lastOk md ops L = true) {listed : Array Bool} (hcl : Closed md ops listed) {j : Nat} (hj : j ∈ Region.ready md ops listed) (hL : L ∈ Region.ready md ops listed) : j = L := by
  obtain ⟨hjun, oj, hoj, _⟩ := mem_ready.1 hj
  obtain ⟨hLun, oL, hoL, hall⟩ := mem_ready.1 hL
  simp only [lastOk, hoL, List.all_eq_true, List.mem_range] at h
  have h1 := h j (Array.getElem?_eq_some_iff.1 hoj).1
  simp only [Bool.or_eq_true, beq_iff_eq] at h1
  rcases h1 with h1 | h1
  · exact h1
  · have hjl : listed.getD j false = true := by
      unfold anc at h1
      rw [hoL] at h1
      simp only at h1
      rw [Bool.or_eq_true] at h1
      rcases h1 with h1 | h1
      · obtain ⟨e, he, hb⟩ := Array.any_eq_true'.1 h1
        simp only [Bool.and_eq_true, beq_iff_eq] at hb
        have := hall e he hb.1
        rwa [hb.2] at this
      · obtain ⟨e, he, hb⟩ := Array.any_eq_true'.1 h1
        simp only [Bool.and_eq_true] at hb
        exact anc_spec hcl _ e.on j hb.2 (hall e he hb.1)
    rcases Nat.lt_or_ge j listed.size with h' | h'
    · simp [h'] at hjun hjl; rw [hjun] at hjl; cases hjl
    · simp [Array.getElem?_eq_none h'] at hjl

theorem wpAnyL_first (hLok : lastOk md ops L = true) {i : Nat} {oi : Oper} {v : Value} (hi : ops[i]? = some oi) (hsel : ∀ (j : Nat) (o : Oper) cs b, ops[j]? = some o → o.op ≠ .select cs b)
    (hQ : ∀ c a w, Q (.panic c) (a.put oi.dst v) w → Q (.panic c) a w) :
    ∀ (fuel : Nat) (listed : Array Bool) (a : Act) (w : World), Closed md ops listed →
      (∀ j oj, ops[j]? = some oj → j ≠ i → listed.getD j true = false → (∀ e ∈ oj.after, Region.binds md e = true → e.on ≠ i) → oi.apart ops oj = true) →
      i ∈ Region.ready md ops listed → YieldsIf P ops S oi v a → S w →
      wpAnyL P md ops Q L S fuel (listed.setIfInBounds i true) (a.put oi.dst v) w → wpAnyL P md ops Q L S (fuel + 1) listed a w := by
  intro fuel
  induction fuel with
  | zero =>
    intro listed a w _ _ hr hy hS H
    refine ⟨fun h => (by rw [h] at hr; cases hr), fun j hj => ?_⟩
    by_cases hji : j = i
    · subst hji; exact hy.wpOp hi hS ⟨fun _ => hS, H⟩
    · have := ready_mono hj hji
      rw [H.1] at this
      cases this
  | succ fuel ih =>
    intro listed a w hcl hfree hr hy hS H
    refine ⟨fun h => (by rw [h] at hr; cases hr), fun j hj => ?_⟩
    by_cases hji : j = i
    · subst hji; exact hy.wpOp hi hS ⟨fun _ => hS, H⟩
    · have h1 := H.2 j (ready_mono hj hji)
      have hjL : j ≠ L := fun e => hji (by rw [e]; exact (lastOk_spec hLok hcl hr (e ▸ hj)).symm)
      obtain ⟨hjun, oj, hoj, hall⟩ := mem_ready.1 hj
      have hnot : ∀ e ∈ oj.after, Region.binds md e = true → e.on ≠ i := fun e he hb heq => by
        have h1 := hall e he hb
        have h0 := (mem_ready.1 hr).1
        rw [heq] at h1
        rcases Nat.lt_or_ge i listed.size with h' | h'
        · simp [h'] at h0 h1; rw [h0] at h1; cases h1
        · simp [Array.getElem?_eq_none h'] at h1
      have h2 := wpOp_putIf hoj (hfree j oj hoj hji hjun hnot) (fun cs b => hsel i oi cs b hi) (fun cs b => hsel j oj cs b hoj) hQ hy h1
      have hfree' : ∀ k ok, ops[k]? = some ok → k ≠ i → (listed.setIfInBounds j true).getD k true = false →
          (∀ e ∈ ok.after, Region.binds md e = true → e.on ≠ i) → oi.apart ops ok = true := fun k ok hk hki hun hno => by
        refine hfree k ok hk hki ?_ hno
        by_cases hjk : j = k
        · subst hjk; exact hjun
        · rw [getD_set_ne true hjk] at hun; exact hun
      refine wpOp_mono (fun a' w' h3 => ⟨h3.2.1, ih (listed.setIfInBounds j true) a' w' (hcl.step hj) hfree' (ready_mono hr (Ne.symm hji)) h3.1 (h3.2.1 hjL) ?_⟩) h2
      rw [Array.setIfInBounds_comm _ _ hji]
      exact h3.2.2

theorem heldStart (L : Nat) {id : Nat} {a : Act} {w : World} (hm : P.follows .mixedOrders = true) (hS : S w.drew)
    (h : S w.drew → wpAnyL P .any ops Q L S ops.size (Array.replicate ops.size false) a w.drew) : (Code.region id ops true).wp P Q a w :=
  wp_region_any hm (wpAny_of_last _ _ _ _ (h hS))

theorem heldTake (i : Nat) {oi : Oper} {v : Value} {fuel : Nat} {listed : Array Bool} {a : Act} {w : World} (hi : ops[i]? = some oi)
    (hc : (lastOk md ops L && closedB md ops listed && Region.noSelect ops && Region.free md ops listed i && (Region.ready md ops listed).contains i) = true)
    (hQ : ∀ c a w, Q (.panic c) (a.put oi.dst v) w → Q (.panic c) a w) (hw : Region.wanted oi (yielded ops a.tmps) = true) (hS : S w)
    (hv : ∀ w, S w → (execOp a.eval oi).run P w = .ok (.value v) w)
    (h : wpAnyL P md ops Q L S fuel (listed.setIfInBounds i true) (a.put oi.dst v) w) : wpAnyL P md ops Q L S (fuel + 1) listed a w := by
  simp only [Bool.and_eq_true] at hc
  exact wpAnyL_first hc.1.1.1.1 hi (Region.noSelect_spec hc.1.1.2) hQ fuel listed a w (closed_spec hc.1.1.1.2) (Region.free_spec hi hc.1.2) (by simpa using hc.2) (Or.inl ⟨hw, hv⟩) hS h

theorem heldSkip (i : Nat) {oi : Oper} {fuel : Nat} {listed : Array Bool} {a : Act} {w : World} (hi : ops[i]? = some oi)
    (hc : (lastOk md ops L && closedB md ops listed && Region.noSelect ops && Region.free md ops listed i && (Region.ready md ops listed).contains i) = true)
    (hQ : ∀ c a w, Q (.panic c) (a.put oi.dst undef) w → Q (.panic c) a w) (hw : Region.wanted oi (yielded ops a.tmps) = false) (hS : S w)
    (h : wpAnyL P md ops Q L S fuel (listed.setIfInBounds i true) (a.put oi.dst undef) w) : wpAnyL P md ops Q L S (fuel + 1) listed a w := by
  simp only [Bool.and_eq_true] at hc
  exact wpAnyL_first hc.1.1.1.1 hi (Region.noSelect_spec hc.1.1.2) hQ fuel listed a w (closed_spec hc.1.1.1.2) (Region.free_spec hi hc.1.2) (by simpa using hc.2) (Or.inr ⟨hw, rfl⟩) hS h

/-- One operation alone may come up; S is shown anew behind it. -/
theorem heldCall (i : Nat) {oi : Oper} {fuel : Nat} {listed : Array Bool} {a : Act} {w : World} (hi : ops[i]? = some oi)
    (hr : Region.ready md ops listed = [i])
    (h : ∀ K : Act → World → Prop, Shut (∀ a' w', S w' → (S w' → wpAnyL P md ops Q L S fuel (listed.setIfInBounds i true) a' w') → K a' w') →
      if Region.wanted oi (yielded ops a.tmps) = true then oi.wp P a w K Q else K (a.put oi.dst undef) w) : wpAnyL P md ops Q L S (fuel + 1) listed a w := by
  refine ⟨fun h0 => absurd (hr ▸ h0) (by simp), fun j hj => ?_⟩
  rw [hr] at hj
  simp at hj
  subst hj
  exact wpOp_step hi (fun K' hK => h K' (fun a w hS hW => hK a w ⟨fun _ => hS, hW hS⟩))

/-- The same, for an operation that is carried out by a law. -/
theorem heldLaw (i : Nat) {oi : Oper} {fuel : Nat} {listed : Array Bool} {a : Act} {w : World} (hi : ops[i]? = some oi)
    (hr : Region.ready md ops listed = [i]) (hw : Region.wanted oi (yielded ops a.tmps) = true)
    (h : ∀ K : Act → World → Prop, Shut (∀ a' w', S w' → (S w' → wpAnyL P md ops Q L S fuel (listed.setIfInBounds i true) a' w') → K a' w') → oi.wp P a w K Q) : wpAnyL P md ops Q L S (fuel + 1) listed a w :=
  heldCall i hi hr (fun K hK => by rw [if_pos hw]; exact h K hK)

/-- The last one: S is not asked any more. -/
theorem heldLast (i : Nat) {oi : Oper} {fuel : Nat} {listed : Array Bool} {a : Act} {w : World} (hi : ops[i]? = some oi)
    (hr : Region.ready md ops listed = [i]) (hL : i = L)
    (h : ∀ K : Act → World → Prop, Shut (∀ a' w', wpAnyL P md ops Q L S fuel (listed.setIfInBounds i true) a' w' → K a' w') →
      if Region.wanted oi (yielded ops a.tmps) = true then oi.wp P a w K Q else K (a.put oi.dst undef) w) : wpAnyL P md ops Q L S (fuel + 1) listed a w := by
  refine ⟨fun h0 => absurd (hr ▸ h0) (by simp), fun j hj => ?_⟩
  rw [hr] at hj
  simp at hj
  subst hj
  exact wpOp_step hi (fun K' hK => h K' (fun a w hW => hK a w ⟨fun hne => absurd hL hne, hW⟩))

theorem heldLastLaw (i : Nat) {oi : Oper} {fuel : Nat} {listed : Array Bool} {a : Act} {w : World} (hi : ops[i]? = some oi)
    (hr : Region.ready md ops listed = [i]) (hL : i = L) (hw : Region.wanted oi (yielded ops a.tmps) = true)
    (h : ∀ K : Act → World → Prop, Shut (∀ a' w', wpAnyL P md ops Q L S fuel (listed.setIfInBounds i true) a' w' → K a' w') → oi.wp P a w K Q) : wpAnyL P md ops Q L S (fuel + 1) listed a w :=
  heldLast i hi hr hL (fun K hK => by rw [if_pos hw]; exact h K hK)

/-- One of two operations comes up. -/
theorem heldFork (i j : Nat) {fuel : Nat} {listed : Array Bool} {a : Act} {w : World} (hr : Region.ready md ops listed = [i, j])
    (h1 : wpOp P ops Q i (fun a' w' => (i ≠ L → S w') ∧ wpAnyL P md ops Q L S fuel (listed.setIfInBounds i true) a' w') a w)
    (h2 : wpOp P ops Q j (fun a' w' => (j ≠ L → S w') ∧ wpAnyL P md ops Q L S fuel (listed.setIfInBounds j true) a' w') a w) : wpAnyL P md ops Q L S (fuel + 1) listed a w := by
  refine ⟨fun h0 => absurd (hr ▸ h0) (by simp), fun k hk => ?_⟩
  rw [hr] at hk
  simp at hk
  rcases hk with rfl | rfl
  · exact h1
  · exact h2

theorem heldFork3 (i j l : Nat) {fuel : Nat} {listed : Array Bool} {a : Act} {w : World} (hr : Region.ready md ops listed = [i, j, l])
    (h1 : wpOp P ops Q i (fun a' w' => (i ≠ L → S w') ∧ wpAnyL P md ops Q L S fuel (listed.setIfInBounds i true) a' w') a w)
    (h2 : wpOp P ops Q j (fun a' w' => (j ≠ L → S w') ∧ wpAnyL P md ops Q L S fuel (listed.setIfInBounds j true) a' w') a w)
    (h3 : wpOp P ops Q l (fun a' w' => (l ≠ L → S w') ∧ wpAnyL P md ops Q L S fuel (listed.setIfInBounds l true) a' w') a w) : wpAnyL P md ops Q L S (fuel + 1) listed a w := by
  refine ⟨fun h0 => absurd (hr ▸ h0) (by simp), fun k hk => ?_⟩
  rw [hr] at hk
  simp at hk
  rcases hk with rfl | rfl | rfl
  · exact h1
  · exact h2
  · exact h3

theorem heldOp (i : Nat) {oi : Oper} {fuel : Nat} {listed : Array Bool} {a : Act} {w : World} (hi : ops[i]? = some oi)
    (h : ∀ K : Act → World → Prop, Shut (∀ a' w', S w' → (S w' → wpAnyL P md ops Q L S fuel (listed.setIfInBounds i true) a' w') → K a' w') →
      if Region.wanted oi (yielded ops a.tmps) = true then oi.wp P a w K Q else K (a.put oi.dst undef) w) :
    wpOp P ops Q i (fun a' w' => (i ≠ L → S w') ∧ wpAnyL P md ops Q L S fuel (listed.setIfInBounds i true) a' w') a w :=
  wpOp_step hi (fun K' hK => h K' (fun a w hS hW => hK a w ⟨fun _ => hS, hW hS⟩))

theorem heldOpLaw (i : Nat) {oi : Oper} {fuel : Nat} {listed : Array Bool} {a : Act} {w : World} (hi : ops[i]? = some oi) (hw : Region.wanted oi (yielded ops a.tmps) = true)
    (h : ∀ K : Act → World → Prop, Shut (∀ a' w', S w' → (S w' → wpAnyL P md ops Q L S fuel (listed.setIfInBounds i true) a' w') → K a' w') → oi.wp P a w K Q) :
    wpOp P ops Q i (fun a' w' => (i ≠ L → S w') ∧ wpAnyL P md ops Q L S fuel (listed.setIfInBounds i true) a' w') a w :=
  heldOp i hi (fun K hK => by rw [if_pos hw]; exact h K hK)

theorem heldDone {listed : Array Bool} {a : Act} {w : World} (hr : Region.ready md ops listed = []) (h : Q .normal a w) :
    ∀ fuel, wpAnyL P md ops Q L S fuel listed a w
  | 0 => ⟨hr, h⟩
  | _ + 1 => ⟨fun _ => h, by rw [hr]; simp⟩
end
end Go.Proofs.YtaollcpoibgblaaDoor
