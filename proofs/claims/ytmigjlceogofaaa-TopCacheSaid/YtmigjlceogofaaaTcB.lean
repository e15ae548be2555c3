/- The plain law of TopCache: whatever the cache holds is what was put last, and hangs where it was hung. -/
import Derived.Test.YtmigjlceogofaaaCacK
import Derived.Test.YtmigjlceogofaaaTcA
namespace Go.Proofs.Ytmigjlceogofaaa
set_option linter.unusedVariables false
set_option linter.unusedSimpArgs false

abbrev SMap := List (ByteArray × ByteArray)
structure TcInv (us : Int) (V : CView) (Wt Hg : SMap) : Prop where
  inv : VInv us V
  has : ∀ p ∈ V, mget Wt p.1 = some p.2.val ∧ ∃ d, p.2.deps = [d] ∧ mget Hg p.1 = some d
theorem TcInv.init : TcInv 0 [] [] [] := ⟨VInv.init, by simp⟩
theorem TcInv.put {us sz : Int} {V V' : CView} {Wt Hg : SMap} (h : TcInv us V Wt Hg) {key val dep : ByteArray} (hc : COut sz (mput V key ⟨val, [dep], us + 1⟩) V') : TcInv (us + 1) V' (mput Wt key val) (mput Hg key dep) := by
  refine ⟨h.inv.put rfl hc, ?_⟩
  intro p hp
  have hp' := hc.sub' p hp
  rw [mget_mput, mget_mput]
  rcases mem_mput.1 hp' with ⟨h1, h2⟩ | rfl
  · rw [if_neg h2, if_neg h2]
    exact h.has p h1
  · simp
theorem TcInv.use {us : Int} {V : CView} {Wt Hg : SMap} (h : TcInv us V Wt Hg) (key : ByteArray) : TcInv (us + 1) (useV V key (us + 1)) Wt Hg := by
  refine ⟨h.inv.use key, ?_⟩
  intro p hp
  obtain ⟨p0, h0, e1, e2, e3, _⟩ := mem_useV hp
  rw [e1, e2, e3]
  exact h.has p0 h0
theorem TcInv.touch {us : Int} {V : CView} {Wt Wt' Hg : SMap} (h : TcInv us V Wt Hg) {dep : ByteArray} (hw : ∀ x d, mget Hg x = some d → d ≠ dep → mget Wt' x = mget Wt x) : TcInv us (touchV V [dep]) Wt' Hg := by
  refine ⟨h.inv.filter _, ?_⟩
  intro p hp
  unfold touchV at hp
  rw [List.mem_filter] at hp
  obtain ⟨h1, d, h2, h3⟩ := h.has p hp.1
  refine ⟨?_, d, h2, h3⟩
  rw [hw _ d h3 (fun e => by
    have := hp.2
    rw [h2, e] at this
    simp [memB] at this)]
  exact h1
/-- What the cache tells is what was put. -/
theorem TcInv.get {us : Int} {V : CView} {Wt Hg : SMap} (h : TcInv us V Wt Hg) {key : ByteArray} {q : PEnt} (hg : mget V key = some q) : mget Wt key = some q.val := (h.has _ (mget_some_mem hg)).1
end Go.Proofs.Ytmigjlceogofaaa
