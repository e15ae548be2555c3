/- The cache's contracts in plain words; deeds in memory; the statements' helpers heavy and lives. -/
import Derived.Test.YtjfknojkiiileaaCacE
import Derived.Test.YtjfknojkiiileaaCacF
import Derived.Test.YtjfknojkiiileaaKitT
namespace Go.Proofs.Ytjfknojkiiileaa
open Go.ChangeShapes Go.WideShapes Go.ChangeAt Go.RowKit
set_option linter.unusedVariables false
set_option linter.unusedSimpArgs false

theorem Upd.iff {F G F' : Nat → Prop} {w w' : World} (h : Upd F w F' w') (e : ∀ k, G k ↔ F k) : Upd G w F' w' :=
  ⟨h.keeps.mono (fun k _ hk => (e k).2 hk), fun k hk => (h.foot k hk).imp (e k).2 id⟩

section
variable {w : World} {cb : Nat} {sz us : Int} {V : CView} {F : Nat → Prop}
theorem cput_o (h : CacO cb sz us V w F) (h0 : 0 ≤ us) (h1 : us ≤ 1000000) (key val : ByteArray) (hkey : key.size ≤ maxLen) (hval : val.size ≤ maxLen) (A : Option Addr) (c : Nat) (deps : List ByteArray) (hd : StrsAt w w.heap.size A deps) (hdl : (deps.length : Int) ≤ 1000000) (hVl : (V.length : Int) ≤ 1000000) (s0 : 0 ≤ sz) (s1 : sz ≤ 1000000) :
    Calls Try.prog 9 #[.pointer (some ⟨cb, 0, none⟩), .string key, .string val, .slice A deps.length c] w (CPut cb sz us V key val deps w F) := by
  obtain ⟨bs, S, E, h, rfl, hF⟩ := h
  refine (cput_any h h0 h1 key val hkey hval A c deps hd hdl (by simpa [viewOf] using hVl) s0 s1).mono ?_
  rintro e w' ⟨he, V', F', hc, ho, hu⟩
  exact ⟨he, V', F', hc, ho, hu.iff hF⟩
theorem ctouch_o (h : CacO cb sz us V w F) (A : Option Addr) (c : Nat) (ds : List ByteArray) (hd : StrsAt w w.heap.size A ds) (hdl : (ds.length : Int) ≤ 1000000) (hVl : (V.length : Int) ≤ 1000000) (hel : ∀ p ∈ V, (p.2.deps.length : Int) ≤ 1000000) :
    Calls Try.prog 12 #[.pointer (some ⟨cb, 0, none⟩), .slice A ds.length c] w fun e w' => e = .returned (.int .i64 ((V.length : Int) - ((touchV V ds).length : Int))) ∧ ∃ F', CacO cb sz us (touchV V ds) w' F' ∧ Upd F w F' w' := by
  obtain ⟨bs, S, E, h, rfl, hF⟩ := h
  refine (ctouch_any h A c ds hd hdl (by simpa [viewOf] using hVl) (fun p hp => hel (p.1, (E p.2).plain) (List.mem_map.2 ⟨p, hp, rfl⟩))).mono ?_
  rintro e w' ⟨he, F', ho, hu⟩
  exact ⟨he, F', ho, hu.iff hF⟩
end

/-! ### deeds -/
structure CDeed where
  kind : Int
  key : ByteArray
  val : ByteArray
  deps : SlD ByteArray
def cdeedCells (d : CDeed) : List Value := [.int .u8 d.kind, .string d.key, .string d.val, .slice d.deps.adr d.deps.l.length d.deps.cap]
def CDeedOk (w : World) (d : CDeed) : Prop := (0 ≤ d.kind ∧ d.kind ≤ 255) ∧ d.key.size ≤ maxLen ∧ d.val.size ≤ maxLen ∧ StrsAt w w.heap.size d.deps.adr d.deps.l ∧ d.deps.l.length ≤ maxLen

theorem flat_one {α : Type} (f : α → Value) (l : List α) : l.flatMap (fun a => [f a]) = l.map f := by
  induction l with
  | nil => rfl
  | cons a l ih => simp [ih]

section
variable {H : Type} {enc : TypeId × Value → H} {w : World}
theorem dec_cdeed : Dec enc Try.prog w 29 cdeedCells (CDeedOk w) := by
  refine (dec_struct4 Try.underlying29 (by kernel_rfl) rfl (by kernel_rfl) (by kernel_rfl) (by kernel_rfl) (dec_int Try.underlying5) (dec_string Try.underlying9) (dec_string Try.underlying9)
    (dec_slice (k := 1) Try.underlying27 (by omega) (by kernel_rfl) (fun _ => rfl) (dec_string Try.underlying9))).map
    (fun a => ⟨a.1, a.2.1, a.2.2.1, a.2.2.2⟩) (fun a => rfl) ?_
  rintro ⟨k, s, v, d⟩ ⟨h1, h2, h3, h4, h5, h6, h7⟩
  refine ⟨bounds_u8 h1, h2, h3, ⟨?_, h6⟩, h5⟩
  rw [flat_one] at h4
  exact h4
theorem dec_cdeeds : Dec enc Try.prog w 22 (slCells (α := CDeed)) (SlEx w 4 cdeedCells (CDeedOk w)) :=
  dec_slice Try.underlying22 (by omega) (by kernel_rfl) (fun _ => rfl) dec_cdeed
end

/-- A slice of deeds, and what they lead to. -/
def CDeedsAt (w : World) (B : Nat) (A : Option Addr) (l : List CDeed) : Prop := Reads w B 4 A l.length (l.flatMap cdeedCells) ∧ ∀ d ∈ l, StrsAt w B d.deps.adr d.deps.l
theorem CDeedsAt.one {w : World} {B : Nat} {A : Option Addr} {l : List CDeed} (h : CDeedsAt w B A l) {k : Nat} (hk : k < l.length) :
    ∃ b o, A = some ⟨b, o, none⟩ ∧ b < B ∧ w.cell? ⟨b, o + k * 4, none⟩ = some (.int .u8 l[k].kind) ∧ w.cell? ⟨b, o + k * 4 + 1, none⟩ = some (.string l[k].key) ∧ w.cell? ⟨b, o + k * 4 + 1 + 1, none⟩ = some (.string l[k].val) ∧
      w.cell? ⟨b, o + k * 4 + 1 + 1 + 1, none⟩ = some (.slice l[k].deps.adr l[k].deps.l.length l[k].deps.cap) := by
  obtain ⟨b, o, e, hb, hc⟩ := h.1.2 (by omega)
  have f := fun j (hj : j < 4) => flat_getE (e := cdeedCells) (k := 4) (fun _ => rfl) l k j hk hj
  refine ⟨b, o, e, hb, ?_, ?_, ?_, ?_⟩
  · have := hc (k * 4 + 0) _ (by rw [f 0 (by omega)]; rfl)
    simpa using this
  · have := hc (k * 4 + 1) _ (by rw [f 1 (by omega)]; rfl)
    simpa [Nat.add_assoc] using this
  · have := hc (k * 4 + 2) _ (by rw [f 2 (by omega)]; rfl)
    simpa [Nat.add_assoc] using this
  · have := hc (k * 4 + 3) _ (by rw [f 3 (by omega)]; rfl)
    simpa [Nat.add_assoc] using this
theorem CDeedsAt.below {w w' : World} {B : Nat} {A : Option Addr} {l : List CDeed} (h : CDeedsAt w B A l) (hb : Below B w w') : CDeedsAt w' B A l := ⟨h.1.below hb, fun d hd => (h.2 d hd).below hb⟩

def dHeavy (d : CDeed) : Prop := 100 < (d.key.size : Int) ∨ 100 < (d.val.size : Int) ∨ 10 < (d.deps.l.length : Int) ∨ ∃ s ∈ d.deps.l, 100 < (s.size : Int)
/-- Is there more than is gone through? -/
def CHeavy (l : List CDeed) : Prop := 60 < (l.length : Int) ∨ ∃ d ∈ l, dHeavy d

/-- An answer, and the world as it was. -/
def HvPost (w : World) (l : List CDeed) (e : Ending) (w' : World) : Prop := (∃ b : Bool, e = .returned (.bool b) ∧ (b = true ↔ CHeavy l)) ∧ w = w'
theorem HvPost.yes {w : World} {l : List CDeed} (h : CHeavy l) : HvPost w l (.returned (.bool true)) w := ⟨⟨true, rfl, by simp [h]⟩, rfl⟩
theorem HvPost.no {w : World} {l : List CDeed} (h : ¬ CHeavy l) : HvPost w l (.returned (.bool false)) w := ⟨⟨false, rfl, by simp [h]⟩, rfl⟩

set_option maxRecDepth 20000 in
set_option maxHeartbeats 2000000 in
theorem cheavy_any (A : Option Addr) (B c : Nat) (l : List CDeed) (w : World) (h : CDeedsAt w B A l) (hl : (l.length : Int) ≤ 9223372036854775807) (hk : ∀ d ∈ l, d.key.size ≤ maxLen ∧ d.val.size ≤ maxLen ∧ d.deps.l.length ≤ maxLen) :
    Calls Try.prog 7 #[.slice A l.length c] w (HvPost w l) := by
  by_cases hm : 60 < (l.length : Int)
  · have HP := Lib.hid (HvPost.yes (w := w) (l := l) (.inl hm))
    go_enter Try.func7, Try.ntmps7
    go_wp2
    go_ret
    exact HP.out
  · have HKS := Lib.hid hk
    clear hk
    go_enter Try.func7, Try.ntmps7
    go_wp2_with fail
    go_loopg [3] l.length (fun rest i wr => ∃ k : Nat, i = .int .i64 k ∧ Hid (k + rest = l.length) ∧ Hid (∀ j (hj : j < l.length), j < k → ¬ dHeavy l[j]) ∧ w = wr)
    case atStart => exact ⟨0, rfl, Lib.hid (by simp), Lib.hid (by intro j _ h; omega), rfl⟩
    case round =>
      obtain ⟨k, rfl, HK, HA, rfl⟩ := hrel
      by_cases hk : (k : Int) < (l.length : Int)
      · have hkl : k < l.length := by omega
        obtain ⟨b, o, rfl, hbl, c0, c1, c2, c3⟩ := h.one hkl
        have hsz := HKS.out _ (List.getElem_mem hkl)
        have hds := h.2 _ (List.getElem_mem hkl)
        have HY : Hid (dHeavy l[k] → HvPost w l (.returned (.bool true)) w) := Lib.hid (fun hd => HvPost.yes (.inr ⟨_, List.getElem_mem hkl, hd⟩))
        have HN : Hid (¬ dHeavy l[k] → ∀ j (hj : j < l.length), j < k + 1 → ¬ dHeavy l[j]) := Lib.hid (fun hd j hj hjk => by
          by_cases e : j = k
          · subst e; exact hd
          · exact HA.out j hj (by omega))
        unfold maxLen at hsz
        obtain ⟨z1, z2, z3⟩ := hsz
        generalize l[k] = x at *
        obtain ⟨kind, xk, xv, xd⟩ := x
        obtain ⟨xA, xc, xl⟩ := xd
        simp only at c0 c1 c2 c3 z1 z2 z3 hds
        by_cases g1 : 100 < (xk.size : Int)
        · have HP := Lib.hid (HY.out (.inl g1))
          clear HY HN
          go_wp2
          go_ret
          exact HP.out
        · by_cases g2 : 100 < (xv.size : Int)
          · have HP := Lib.hid (HY.out (.inr (.inl g2)))
            clear HY HN
            go_wp2
            go_ret
            exact HP.out
          · by_cases g3 : 10 < (xl.length : Int)
            · have HP := Lib.hid (HY.out (.inr (.inr (.inl g3))))
              clear HY HN
              go_wp2
              go_ret
              exact HP.out
            · go_wp2_with fail
              go_loopg [4] xl.length (fun rest i wr => ∃ m : Nat, i = .int .i64 m ∧ Hid (m + rest = xl.length) ∧ Hid (∀ j (hj : j < xl.length), j < m → ¬ 100 < (xl[j].size : Int)) ∧ w = wr)
              case atStart => exact ⟨0, rfl, Lib.hid (by simp), Lib.hid (by intro j _ h; omega), rfl⟩
              case round =>
                obtain ⟨m, rfl, HM, HMA, rfl⟩ := hrel
                by_cases hm2 : (m : Int) < (xl.length : Int)
                · have hml : m < xl.length := by omega
                  obtain ⟨b2, o2, rfl, hbl2, cm, hsm⟩ := hds.one hml
                  by_cases g4 : 100 < (xl[m].size : Int)
                  · have HP := Lib.hid (HY.out (.inr (.inr (.inr ⟨_, List.getElem_mem hml, g4⟩))))
                    clear HY HN
                    generalize xl[m] = y at *
                    go_wp2
                    go_ret
                    exact HP.out
                  · have HG4 := Lib.hid g4
                    have g5 : (xl[m].size : Int) ≤ 100 := by omega
                    clear g4
                    have HMA' : Hid (∀ j (hj : j < xl.length), j < m + 1 → ¬ 100 < (xl[j].size : Int)) := Lib.hid (fun j hj hjm => by
                      by_cases e : j = m
                      · subst e; exact HG4.out
                      · exact HMA.out j hj (by omega))
                    generalize xl[m] = y at *
                    go_wp2
                    go_roundg (gk - 1)
                    case measure => have := HM.out; omega
                    case rel => exact ⟨m + 1, by go_num, Lib.hid (by have := HM.out; omega), HMA', rfl⟩
                · have HNO : Hid (∀ j (hj : j < l.length), j < k + 1 → ¬ dHeavy l[j]) := Lib.hid (HN.out (by
                    rintro (h | h | h | ⟨s, hs, h⟩)
                    · simp only at h; omega
                    · simp only at h; omega
                    · simp only at h; omega
                    · obtain ⟨j, hj, rfl⟩ := List.getElem_of_mem hs
                      exact HMA.out j hj (by simp only at hj; omega) h))
                  clear HY HN
                  go_wp2
                  go_roundg (l.length - (k + 1))
                  case measure => have := HK.out; omega
                  case rel => exact ⟨k + 1, by go_num, Lib.hid (by have := HK.out; omega), HNO, rfl⟩
      · go_wp2
        go_ret
        refine HvPost.no ?_
        rintro (h | ⟨d, hd, h⟩)
        · omega
        · obtain ⟨j, hj, rfl⟩ := List.getElem_of_mem hd
          exact HA.out j hj (by omega) h
end Go.Proofs.Ytjfknojkiiileaa
