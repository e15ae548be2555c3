/- The cache's contracts in plain words. -/
import Derived.Test.YtmigjlceogofaaaCacE
import Derived.Test.YtmigjlceogofaaaCacS
namespace Go.Proofs.Ytmigjlceogofaaa
open Go.ChangeShapes Go.WideShapes Go.ChangeAt Go.RowKit
set_option linter.unusedVariables false
set_option linter.unusedSimpArgs false

theorem Upd.iff {F G F' : Nat → Prop} {w w' : World} (h : Upd F w F' w') (e : ∀ k, G k ↔ F k) : Upd G w F' w' :=
  ⟨h.keeps.mono (fun k _ hk => (e k).2 hk), fun k hk => (h.foot k hk).imp (e k).2 id⟩

section
variable {w : World} {cb : Nat} {sz us : Int} {V : CView} {F : Nat → Prop}
theorem cput_o (h : CacO cb sz us V w F) (h0 : 0 ≤ us) (h1 : us ≤ 1000000) (key val : ByteArray) (hkey : key.size ≤ maxLen) (hval : val.size ≤ maxLen) (A : Option Addr) (c : Nat) (deps : List ByteArray) (hd : StrsAt w w.heap.size A deps) (hdl : (deps.length : Int) ≤ 1000000) (hVl : (V.length : Int) ≤ 1000000) (s0 : 0 ≤ sz) (s1 : sz ≤ 1000000) :
    Calls Try.prog 17 #[.pointer (some ⟨cb, 0, none⟩), .string key, .string val, .slice A deps.length c] w (CPut cb sz us V key val deps w F) := by
  obtain ⟨bs, S, E, h, rfl, hF⟩ := h
  refine (cput_any h h0 h1 key val hkey hval A c deps hd hdl (by simpa [viewOf] using hVl) s0 s1).mono ?_
  rintro e w' ⟨he, V', F', hc, ho, hu⟩
  exact ⟨he, V', F', hc, ho, hu.iff hF⟩
theorem ctouch_o (h : CacO cb sz us V w F) (A : Option Addr) (c : Nat) (ds : List ByteArray) (hd : StrsAt w w.heap.size A ds) (hdl : (ds.length : Int) ≤ 1000000) (hVl : (V.length : Int) ≤ 1000000) (hel : ∀ p ∈ V, (p.2.deps.length : Int) ≤ 1000000) :
    Calls Try.prog 18 #[.pointer (some ⟨cb, 0, none⟩), .slice A ds.length c] w fun e w' => e = .returned (.int .i64 ((V.length : Int) - ((touchV V ds).length : Int))) ∧ ∃ F', CacO cb sz us (touchV V ds) w' F' ∧ Upd F w F' w' := by
  obtain ⟨bs, S, E, h, rfl, hF⟩ := h
  refine (ctouch_any h A c ds hd hdl (by simpa [viewOf] using hVl) (fun p hp => hel (p.1, (E p.2).plain) (List.mem_map.2 ⟨p, hp, rfl⟩))).mono ?_
  rintro e w' ⟨he, F', ho, hu⟩
  exact ⟨he, F', ho, hu.iff hF⟩
end

end Go.Proofs.Ytmigjlceogofaaa
