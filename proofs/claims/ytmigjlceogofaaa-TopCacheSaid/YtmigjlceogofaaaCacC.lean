/- The cache as an object with a plain view; contract of Put. -/
import Derived.Test.YtmigjlceogofaaaCacB
import Derived.Test.YtmigjlceogofaaaKitC
import Derived.Test.YtmigjlceogofaaaKitX
import Derived.Test.YtmigjlceogofaaaLay
namespace Go.Proofs.Ytmigjlceogofaaa
open Go.ChangeShapes Go.WideShapes Go.ChangeAt Go.RowKit
set_option linter.unusedVariables false
set_option linter.unusedSimpArgs false

/-- An entry in plain words. -/
structure PEnt where
  val : ByteArray
  deps : List ByteArray
  used : Int
abbrev CView := List (ByteArray × PEnt)
def EntV.plain (e : EntV) : PEnt := ⟨e.val, e.deps, e.used⟩
def viewOf (S : EntL) (E : Nat → EntV) : CView := S.map fun p => (p.1, (E p.2).plain)

theorem mget_view (S : EntL) (E : Nat → EntV) (x : ByteArray) : mget (viewOf S E) x = (mget S x).map fun b => (E b).plain := by
  induction S with
  | nil => rfl
  | cons p S ih =>
    obtain ⟨a, b⟩ := p
    simp only [viewOf, List.map_cons, mget] at ih ⊢
    split
    · rfl
    · exact ih
theorem keys_view (S : EntL) (E : Nat → EntV) : (viewOf S E).map (·.1) = S.map (·.1) := by simp [viewOf]
theorem mdel_view (S : EntL) (E : Nat → EntV) (x : ByteArray) : viewOf (mdel S x) E = mdel (viewOf S E) x := by
  simp only [viewOf, mdel, List.filter_map]
  rfl
theorem mput_view (S : EntL) (E : Nat → EntV) (x : ByteArray) (b : Nat) (e : EntV) (hb : ∀ p ∈ S, p.2 ≠ b) : viewOf (mput S x b) (fun k => if k = b then e else E k) = mput (viewOf S E) x e.plain := by
  have h1 : viewOf S (fun k => if k = b then e else E k) = viewOf S E := by
    unfold viewOf
    apply List.map_congr_left
    intro p hp
    simp only [if_neg (hb p hp)]
  unfold mput
  rw [mget_view]
  cases hg : mget S x with
  | none =>
    simp only [Option.map_none, Option.isSome_none, Bool.false_eq_true, if_false]
    have : viewOf (S ++ [(x, b)]) (fun k => if k = b then e else E k) = viewOf S (fun k => if k = b then e else E k) ++ [(x, e.plain)] := by simp [viewOf]
    rw [this, h1]
  | some c =>
    simp only [Option.map_some, Option.isSome_some, if_true]
    simp only [viewOf, List.map_map]
    apply List.map_congr_left
    intro p hp
    simp only [Function.comp]
    by_cases hx : p.1 = x
    · simp [hx]
    · simp [hx, hb p hp]

/-- A cache in memory that reads as V. -/
def CacO (cb : Nat) (sz us : Int) (V : CView) (w : World) (F : Nat → Prop) : Prop :=
  ∃ bs S E, CacAt w cb bs sz us S E ∧ viewOf S E = V ∧ ∀ k, F k ↔ cacFoot cb bs S E k
theorem CacO.own (cb : Nat) (sz us : Int) (V : CView) : Own1 (CacO cb sz us V) where
  keep := by
    rintro w w' F G ⟨bs, S, E, h, hv, hF⟩ hk hG
    exact ⟨bs, S, E, h.keep hk (fun k hf => hG k ((hF k).2 hf)), hv, hF⟩
  lt := by
    rintro w F ⟨bs, S, E, h, hv, hF⟩ k hk
    exact h.lt k ((hF k).1 hk)
theorem CacO.nodup {cb : Nat} {sz us : Int} {V : CView} {w : World} {F : Nat → Prop} (h : CacO cb sz us V w F) : (V.map (·.1)).Nodup := by
  obtain ⟨bs, S, E, h, rfl, hF⟩ := h
  rw [keys_view]
  exact h.ents.nodup

/-- What is too much goes, the one that was used longest ago. -/
def COut (sz : Int) (V1 V' : CView) : Prop := ((V1.length : Int) ≤ sz ∧ V' = V1) ∨ (sz < (V1.length : Int) ∧ ∃ o e, (o, e) ∈ V1 ∧ (∀ p ∈ V1, e.used ≤ p.2.used) ∧ V' = mdel V1 o)

/-- What Put leaves. -/
def CPut (cb : Nat) (sz us : Int) (V : CView) (key val : ByteArray) (deps : List ByteArray) (w : World) (F : Nat → Prop) (e : Ending) (w' : World) : Prop :=
  e = .returned (.tuple #[]) ∧ ∃ V' F', COut sz (mput V key ⟨val, deps, us + 1⟩) V' ∧ CacO cb sz (us + 1) V' w' F' ∧ Upd F w F' w'

theorem cnew_o (n : Int) (w : World) :
    Calls Try.prog 15 #[.int .i64 n] w fun e w' => ∃ cb F, e = .returned (.pointer (some ⟨cb, 0, none⟩)) ∧ CacO cb (sizeOf' n) 0 [] w' F ∧ (∀ k, F k → w.heap.size ≤ k) ∧ Below w.heap.size w w' := by
  refine (cnew_any n w).mono ?_
  rintro e w' ⟨cb, rfl, h, hc, hb⟩
  refine ⟨cb, _, rfl, ⟨_, _, _, h, rfl, fun k => Iff.rfl⟩, ?_, hb⟩
  rintro k ((rfl | rfl | ⟨p, hp, _⟩) | ⟨p, hp, _⟩)
  · exact hc
  · exact Nat.le_refl _
  · simp at hp
  · simp at hp

theorem clen_o {cb : Nat} {sz us : Int} {V : CView} {w : World} {F : Nat → Prop} (h : CacO cb sz us V w F) :
    Calls Try.prog 20 #[.pointer (some ⟨cb, 0, none⟩)] w fun e w' => e = .returned (.int .i64 V.length) ∧ w = w' := by
  obtain ⟨bs, S, E, h, rfl, hF⟩ := h
  have := clen_any h
  simpa [viewOf] using this

/-- What Get leaves, in plain words. -/
def useV (V : CView) (key : ByteArray) (x : Int) : CView := V.map fun p => if p.1 = key then (p.1, { p.2 with used := x }) else p
def CGetO (cb : Nat) (sz us : Int) (V : CView) (key : ByteArray) (w : World) (F : Nat → Prop) (e : Ending) (w' : World) : Prop :=
  match mget V key with
  | none => e = .returned (.tuple #[.string ByteArray.empty, .bool false]) ∧ w = w'
  | some q => e = .returned (.tuple #[.string q.val, .bool true]) ∧ ∃ F', CacO cb sz (us + 1) (useV V key (us + 1)) w' F' ∧ Upd F w F' w'
theorem cget_o {cb : Nat} {sz us : Int} {V : CView} {w : World} {F : Nat → Prop} (h : CacO cb sz us V w F) (h0 : 0 ≤ us) (h1 : us ≤ 1000000) (key : ByteArray) (hkey : key.size ≤ maxLen) :
    Calls Try.prog 19 #[.pointer (some ⟨cb, 0, none⟩), .string key] w (CGetO cb sz us V key w F) := by
  obtain ⟨bs, S, E, h, rfl, hF⟩ := h
  refine (cget_any h h0 h1 key hkey).mono ?_
  intro e w' hp
  unfold CGet at hp
  unfold CGetO
  rw [mget_view]
  cases hg : mget S key with
  | none => rw [hg] at hp; exact hp
  | some b =>
    rw [hg] at hp
    obtain ⟨he, hc, hk, hs⟩ := hp
    have hA : ∀ k, (if k = b then (E k).use (us + 1) else E k).A = (E k).A := fun k => by split <;> rfl
    have hft : ∀ k, cacFoot cb bs S (fun k => if k = b then (E k).use (us + 1) else E k) k ↔ cacFoot cb bs S E k := fun k => by
      unfold cacFoot EntV.at_
      simp only [hA]
    refine ⟨he, F, ⟨bs, S, _, hc, ?_, fun k => (hF k).trans (hft k).symm⟩, hk.mono (fun k _ hw => (hF k).2 (.inl hw)), fun k hk => .inl hk⟩
    have hm := mget_some_mem hg
    unfold useV viewOf
    rw [List.map_map]
    apply List.map_congr_left
    intro p hp
    simp only [Function.comp]
    by_cases e1 : p.2 = b
    · have e2 : p.1 = key := by
        have hn := h.apart
        obtain ⟨i, hi⟩ := List.getElem?_of_mem hp
        obtain ⟨j, hj⟩ := List.getElem?_of_mem hm
        have hil := (List.getElem?_eq_some_iff.1 hi).1
        have hjl := (List.getElem?_eq_some_iff.1 hj).1
        have hij : i = j := by
          refine (List.getElem_inj (h₀ := by simpa using hil) (h₁ := by simpa using hjl) hn).1 ?_
          have a1 := (List.getElem?_eq_some_iff.1 hi).2
          have a2 := (List.getElem?_eq_some_iff.1 hj).2
          simp [a1, a2, e1]
        subst hij
        rw [hi] at hj
        injection hj with hj
        rw [hj]
      simp only [e1, if_true, e2]
      rfl
    · have e2 : p.1 ≠ key := fun e2 => e1 (by
        have := mget_of_mem h.ents.nodup (x := p.1) (v := p.2) (by simpa using hp)
        rw [e2, hg] at this
        injection this with this
        exact this.symm)
      simp only [e1, if_false, e2]

theorem strs_one29 (l : List ByteArray) : ∀ u ∈ l.map Value.string, u.oneCell' = true := by
  intro u hu
  obtain ⟨n, _, rfl⟩ := List.mem_map.1 hu
  rfl
theorem str_info29 : (Try.prog.info? 9).map (fun i => (i.zero, i.size, i.bytes)) = some (some (.string ByteArray.empty), 1, 16) := by kernel_rfl

/-- A new entry. -/
theorem CacAt.added {w w1 : World} {cb bs : Nat} {sz us : Int} {S : EntL} {E : Nat → EntV} (h : CacAt w cb bs sz us S E) (key : ByteArray) (hkey : strOk key) (nb : Nat) (e : EntV)
    (hm : MapIs w1 strKf ptrVf strOk bs (mput S key nb)) (hk : Keeps (fun k => k = bs) w w1) (hsz : w1.heap.size = w.heap.size)
    (hnb : w.heap[nb]? = some (.cells e.row 115 (0, 0))) (hd : StrsAt w w.heap.size e.A e.deps) (hv : e.val.size ≤ maxLen)
    (hne : nb ≠ cb ∧ ∀ p ∈ S, p.2 ≠ nb) (hdn : ∀ k, e.at_ k → k < w.heap.size ∧ k ≠ cb ∧ k ≠ bs ∧ k ≠ nb ∧ ∀ q ∈ S, k ≠ q.2) (hod : ∀ p ∈ S, ∀ k, (E p.2).at_ k → k ≠ nb) :
    CacAt w1 cb bs sz us (mput S key nb) (fun k => if k = nb then e else E k) := by
  have hnbs : nb ≠ bs := by
    rintro rfl
    obtain ⟨es, c, h1, _⟩ := h.ents
    rw [h1] at hnb; cases hnb
  have hmem : ∀ p ∈ mput S key nb, (p ∈ S ∧ p.1 ≠ key) ∨ p = (key, nb) := by
    intro p hp
    unfold mput at hp
    split at hp
    · obtain ⟨q, hq, rfl⟩ := List.mem_map.1 hp
      split
      · exact .inr rfl
      · rename_i hn; exact .inl ⟨hq, hn⟩
    · rename_i hs
      have hn : mget S key = none := Option.not_isSome_iff_eq_none.1 hs
      rcases List.mem_append.1 hp with hp | hp
      · exact .inl ⟨hp, mget_none_iff.1 hn p hp⟩
      · simp at hp; exact .inr hp
  have hlt := fun k hk => h.lt k hk
  refine ⟨(hk.block _ (h.lt _ (.inl (.inl rfl))) h.cb_ne.1).trans h.blk, hm, ?_, ?_, ?_, ?_, ?_, ?_⟩
  · intro p hp
    rcases hmem p hp with ⟨hp, _⟩ | rfl
    · simp only [if_neg (hne.2 p hp)]
      exact (hk.block _ (h.lt _ (.inl (.inr (.inr ⟨p, hp, rfl⟩)))) (h.cb_ne.2 p hp)).trans (h.rows p hp)
    · simp only [if_true]
      exact (hk.block _ (Array.getElem?_eq_some_iff.1 hnb).1 hnbs).trans hnb
  · intro p hp
    rw [hsz]
    rcases hmem p hp with ⟨hp, _⟩ | rfl
    · simp only [if_neg (hne.2 p hp)]
      exact (h.deps p hp).keep hk (Nat.le_refl _) (fun b o sp e => (h.dne p hp b ⟨o, sp, e⟩).2.2.1)
    · simp only [if_true]
      exact hd.keep hk (Nat.le_refl _) (fun b o sp e => (hdn b ⟨o, sp, e⟩).2.2.1)
  · intro p hp
    rcases hmem p hp with ⟨hp, _⟩ | rfl
    · exact h.ne p hp
    · exact hne.1
  · unfold mput
    split
    · have : ∀ (l : EntL), (∀ p ∈ l, p.2 ≠ nb) → (l.map (·.1)).Nodup → (l.map (·.2)).Nodup → ((l.map fun p => if p.1 = key then (key, nb) else p).map (·.2)).Nodup := by
        intro l
        induction l with
        | nil => intro _ _ _; simp
        | cons a l ih =>
          intro h1 h2 h3
          simp only [List.map_cons, List.nodup_cons] at h2 h3 ⊢
          refine ⟨?_, ih (fun p hp => h1 p (by simp [hp])) h2.2 h3.2⟩
          intro hmm
          obtain ⟨q, hq, e1⟩ := List.mem_map.1 hmm
          obtain ⟨r, hr, rfl⟩ := List.mem_map.1 hq
          by_cases ha : a.1 = key
          · rw [if_pos ha] at e1
            have hrk : r.1 ≠ key := fun e => h2.1 (by rw [ha, ← e]; exact List.mem_map.2 ⟨r, hr, rfl⟩)
            rw [if_neg hrk] at e1
            exact h1 r (by simp [hr]) e1
          · rw [if_neg ha] at e1
            by_cases hrk : r.1 = key
            · rw [if_pos hrk] at e1
              exact h1 a (by simp) e1.symm
            · rw [if_neg hrk] at e1
              exact h3.1 (by rw [← e1]; exact List.mem_map.2 ⟨r, hr, rfl⟩)
      exact this S hne.2 h.ents.nodup h.apart
    · rw [List.map_append, List.nodup_append]
      refine ⟨h.apart, by simp, ?_⟩
      intro a ha c hc
      simp at hc
      subst hc
      obtain ⟨p, hp, rfl⟩ := List.mem_map.1 ha
      exact hne.2 p hp
  · intro p hp k hkk
    rw [hsz]
    rcases hmem p hp with ⟨hp, _⟩ | rfl
    · simp only [if_neg (hne.2 p hp)] at hkk
      have hh := h.dne p hp k hkk
      refine ⟨hh.1, hh.2.1, hh.2.2.1, fun q hq => ?_⟩
      rcases hmem q hq with ⟨hq, _⟩ | rfl
      · exact hh.2.2.2 q hq
      · exact hod p hp k hkk
    · simp only [if_true] at hkk
      have hh := hdn k hkk
      refine ⟨hh.1, hh.2.1, hh.2.2.1, fun q hq => ?_⟩
      rcases hmem q hq with ⟨hq, _⟩ | rfl
      · exact hh.2.2.2.2 q hq
      · exact hh.2.2.2.1
  · intro p hp
    rcases hmem p hp with ⟨hp, _⟩ | rfl
    · simp only [if_neg (hne.2 p hp)]
      exact h.vals p hp
    · simpa using hv

/-- Fewer entries. -/
theorem CacAt.less {w w1 : World} {cb bs : Nat} {sz us : Int} {S S' : EntL} {E : Nat → EntV} (h : CacAt w cb bs sz us S E) (hm : MapIs w1 strKf ptrVf strOk bs S') (hs : S'.Sublist S) (hk : Keeps (fun k => k = bs ∨ w.heap.size ≤ k) w w1) : CacAt w1 cb bs sz us S' E where
  blk := (hk.block _ (h.lt _ (.inl (.inl rfl))) (by rintro (e | e); exact h.cb_ne.1 e; exact absurd (h.lt _ (.inl (.inl rfl))) (by omega))).trans h.blk
  ents := hm
  rows := fun p hp => by
    have hl := h.lt _ (.inl (.inr (.inr ⟨p, hs.subset hp, rfl⟩)))
    exact (hk.block _ hl (by rintro (e | e); exact h.cb_ne.2 p (hs.subset hp) e; omega)).trans (h.rows p (hs.subset hp))
  deps := fun p hp => ((h.deps p (hs.subset hp)).keep hk (Nat.le_refl _) (fun b o sp e => by
    have hd := h.dne p (hs.subset hp) b ⟨o, sp, e⟩
    rintro (e | e)
    · exact hd.2.2.1 e
    · omega)).more hk.size
  ne := fun p hp => h.ne p (hs.subset hp)
  apart := h.apart.sublist (hs.map _)
  dne := fun p hp k hkk => by
    have hd := h.dne p (hs.subset hp) k hkk
    exact ⟨Nat.lt_of_lt_of_le hd.1 hk.size, hd.2.1, hd.2.2.1, fun q hq => hd.2.2.2 q (hs.subset hq)⟩
  vals := fun p hp => h.vals p (hs.subset hp)
end Go.Proofs.Ytmigjlceogofaaa
