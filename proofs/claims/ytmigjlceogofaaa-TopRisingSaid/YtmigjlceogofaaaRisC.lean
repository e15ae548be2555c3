/- rising.Of, plainly: which rises there are; sorting them. -/
import Derived.Test.YtmigjlceogofaaaRisB
import Derived.Test.YtmigjlceogofaaaPaneL
namespace Go.Proofs.Ytmigjlceogofaaa
open Go.ChangeShapes Go.WideShapes Go.ChangeAt Go.RowKit Go.Shelf Go.Lib Go.Sort Go.Proofs
set_option linter.unusedVariables false
set_option linter.unusedSimpArgs false

def ofB (wd span now : Int) : Bool := decide (1 ≤ span) && decide (span ≤ 1099511627776) && decide (span % wd = 0) && decide (0 ≤ now) && decide (now ≤ 1099511627776)
/-- The begin of now's pane. -/
def begB (wd now : Int) : Int := now - now % wd
def riseOf (wd : Int) (hist : List AddD) (span b : Int) (k : ByteArray) : RiseV := ⟨k, histTot wd hist k ((b - span) / wd) (b / wd), histTot wd hist k ((b - 2 * span) / wd) ((b - span) / wd)⟩
def RisesOf (wd : Int) (hist : List AddD) (span now floor : Int) (rs : List RiseV) : Prop :=
  if ofB wd span now = true then rs.Pairwise (fun x y => riseLt x y = true) ∧ ∀ r, r ∈ rs ↔ (r = riseOf wd hist span (begB wd now) r.key ∧ 1 ≤ r.new ∧ floor ≤ r.new) else rs = []
def RisesNew (w : World) (wd : Int) (hist : List AddD) (span now floor : Int) (e : Ending) (w' : World) : Prop :=
  ∃ A c rs, e = .returned (.slice A (List.length rs) c) ∧ RisesOf wd hist span now floor rs ∧ w'.ownsRow w.heap.size 70 3 (.slice A rs.length c) rs.length (rs.flatMap riseEnc) ∧ Below w.heap.size w w' ∧ rs.length ≤ hist.length

theorem PaneObj.tot_bd {w : World} {pb : Nat} {F : Nat → Prop} {wd : Int} {hist : List AddD} (h : PaneObj w pb F wd hist) (key : ByteArray) (lo hi : Int) : 0 ≤ histTot wd hist key lo hi ∧ histTot wd hist key lo hi ≤ 1099511627776 := by
  obtain ⟨bs, br, S, R, h1, h2, rfl⟩ := h
  rw [← h2.same]
  exact h2.bound key lo hi
theorem PaneObj.key_sz {w : World} {pb : Nat} {F : Nat → Prop} {wd : Int} {hist : List AddD} (h : PaneObj w pb F wd hist) {key : ByteArray} {lo hi : Int} (hk : 0 < histTot wd hist key lo hi) : 1 ≤ key.size ∧ key.size ≤ 24 := by
  obtain ⟨bs, br, S, R, h1, h2, rfl⟩ := h
  obtain ⟨a, ha, e, _⟩ := histTot_key (wd := wd) (hist := hist) (key := key) (lo := lo) (hi := hi) (by omega)
  rw [← e]
  exact (h2.ticks a ha).2.2.2.2
theorem PaneObj.cnt {w : World} {pb : Nat} {F : Nat → Prop} {wd : Int} {hist : List AddD} (h : PaneObj w pb F wd hist) : hist.length ≤ 1048576 := by
  obtain ⟨bs, br, S, R, h1, h2, rfl⟩ := h
  exact h2.cnt

theorem nodup_of_map {α β : Type} (f : α → β) {l : List α} (h : (l.map f).Nodup) : l.Nodup := (List.pairwise_map.1 h).imp (fun h e => h (congrArg f e))
theorem okRise_map (l : List RiseV) (h : ∀ r ∈ l, RiseOk r) : ∃ m : List OkRise, m.map (·.1) = l := by
  induction l with
  | nil => exact ⟨[], rfl⟩
  | cons a l ih =>
    obtain ⟨m, rfl⟩ := ih (fun s hs => h s (by simp [hs]))
    exact ⟨⟨a, h a (by simp)⟩ :: m, rfl⟩
def okEncR (x : OkRise) : List Value := riseEnc x.1
theorem flat_ok (m : List OkRise) : m.flatMap okEncR = (m.map (·.1)).flatMap riseEnc := by
  rw [List.flatMap_map]
  rfl
theorem enters_rcmp : ∀ args w, (callFunc 75 args).run Try.prog w = .ok (.enter 75 args) w := by
  intro args w; kernel_rfl

/-- slices.SortFunc of rises. -/
theorem rsort_any (base : Nat) (A : Option Addr) (cap : Nat) (rs : List RiseV) (w : World) (hok : ∀ r ∈ rs, RiseOk r) (hnd : rs.Nodup) (hown : w.ownsRow base 70 3 (.slice A rs.length cap) rs.length (rs.flatMap riseEnc)) (hsz : (rs.length : Int) ≤ 1048576) :
    Calls Try.prog 74 #[.slice A rs.length cap, .func (.func 75) #[] #[]] w fun r w' => r = .returned (.tuple #[]) ∧ ∃ ms : List RiseV, rs.Perm ms ∧ ms.Pairwise (fun x y => riseLt x y = true) ∧
      w'.ownsRow base 70 3 (.slice A rs.length cap) rs.length (ms.flatMap riseEnc) ∧ Keeps (fun j => (Value.slice A rs.length cap).ownBlock = some j) w w' := by
  obtain ⟨L, hL⟩ := okRise_map rs hok
  have hLn : L.Nodup := nodup_of_map (·.1) (by rw [hL]; exact hnd)
  obtain ⟨M, hM, hMs⟩ := sort_ex (lt := ltOf okCmp) okLt_irr okLt_tr okLt_tot hLn
  have hlen : L.length = rs.length := by rw [← hL]; simp
  have q := sortK (P := Try.prog) Try.sortR 3 (fun w => by kernel_rfl) (fun w => by kernel_rfl) okEncR (fun _ => rfl) (fun x v hv => by
      simp [okEncR, riseEnc] at hv
      rcases hv with rfl | rfl | rfl <;> rfl) okCmp (swo_of okLt_irr okLt_tr okLt_tot) okLt_tot 75 #[] enters_rcmp base 70 A rs.length cap L hlen w (by rw [flat_ok, hL]; exact hown)
      (fun W x y _ => rcmp_any x.1.key y.1.key x.1.new x.1.old y.1.new y.1.old x.2 y.2 W) (by omega)
  refine Calls.mono q ?_
  rintro r w' ⟨rfl, ho, hk⟩
  rw [mergeSort_is okLt_irr okLt_tr okLt_tot hM hMs, flat_ok] at ho
  refine ⟨rfl, M.map (·.1), ?_, ?_, ho, hk⟩
  · rw [← hL]; exact hM.map _
  · rw [List.pairwise_map]; exact hMs

theorem rise_info : (Try.prog.info? 70).map (fun i => (i.zero, i.size, i.bytes)) = some (some (.agg #[.string ByteArray.empty, .int .i64 0, .int .i64 0]), 3, 32) := by kernel_rfl
theorem riseOf_ok {w : World} {pb : Nat} {F : Nat → Prop} {wd : Int} {hist : List AddD} (h : PaneObj w pb F wd hist) (span b : Int) {k : ByteArray} (hk : 0 < histTot wd hist k ((b - span) / wd) (b / wd)) : RiseOk (riseOf wd hist span b k) := by
  have h1 := h.tot_bd k ((b - span) / wd) (b / wd)
  have h2 := h.tot_bd k ((b - 2 * span) / wd) ((b - span) / wd)
  exact ⟨by show 1 ≤ histTot _ _ _ _ _; omega, h1.2, h2.1, h2.2⟩

/-- What the loop of Of gathers. -/
def gath (wd : Int) (hist : List AddD) (span b floor : Int) (ks : List ByteArray) : List RiseV := (ks.map (riseOf wd hist span b)).filter (fun r => decide (floor ≤ r.new))
theorem gath_snoc (wd : Int) (hist : List AddD) (span b floor : Int) (ks : List ByteArray) (k : ByteArray) : gath wd hist span b floor (ks ++ [k]) = gath wd hist span b floor ks ++ (if floor ≤ (riseOf wd hist span b k).new then [riseOf wd hist span b k] else []) := by
  unfold gath
  rw [List.map_append, List.filter_append]
  congr 1
  by_cases h : floor ≤ (riseOf wd hist span b k).new
  · simp [List.filter_cons, h]
  · simp [List.filter_cons, h]
theorem gath_nodup (wd : Int) (hist : List AddD) (span b floor : Int) {ks : List ByteArray} (h : ks.Nodup) : (gath wd hist span b floor ks).Nodup := by
  unfold gath
  refine List.Nodup.sublist List.filter_sublist ?_
  refine nodup_of_map (·.key) ?_
  rw [List.map_map]
  have : ((fun r : RiseV => r.key) ∘ riseOf wd hist span b) = id := rfl
  rw [this, List.map_id]
  exact h
theorem gath_len (wd : Int) (hist : List AddD) (span b floor : Int) (ks : List ByteArray) : (gath wd hist span b floor ks).length ≤ ks.length := by
  unfold gath
  have := List.length_filter_le (fun r : RiseV => decide (floor ≤ r.new)) (ks.map (riseOf wd hist span b))
  simpa using this
theorem gath_is {wd : Int} {hist : List AddD} {span now floor : Int} {ks : List ByteArray} (hB : ofB wd span now = true) (hk : KeysOf wd hist ((begB wd now - span) / wd) (begB wd now / wd) ks) {ms : List RiseV} (hp : (gath wd hist span (begB wd now) floor ks).Perm ms) (hs : ms.Pairwise (fun x y => riseLt x y = true)) : RisesOf wd hist span now floor ms := by
  unfold RisesOf
  rw [if_pos hB]
  refine ⟨hs, fun r => ?_⟩
  rw [← hp.mem_iff]
  unfold gath
  rw [List.mem_filter, List.mem_map]
  constructor
  · rintro ⟨⟨k, hk1, rfl⟩, h2⟩
    refine ⟨rfl, ?_, by simpa using h2⟩
    have := (hk.2 k).1 hk1
    exact this
  · rintro ⟨h1, h2, h3⟩
    refine ⟨⟨r.key, (hk.2 r.key).2 ?_, h1.symm⟩, by simpa using h3⟩
    have : r.new = histTot wd hist r.key ((begB wd now - span) / wd) (begB wd now / wd) := congrArg RiseV.new h1
    omega
end Go.Proofs.Ytmigjlceogofaaa
