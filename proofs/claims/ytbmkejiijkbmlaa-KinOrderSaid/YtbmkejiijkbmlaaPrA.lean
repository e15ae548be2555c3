/- Tables of pairs in memory; contracts of (*pairs.table).single and pair. -/
import Derived.Test.YtbmkejiijkbmlaaPrP
import Derived.Test.YtbmkejiijkbmlaaKitR
import Derived.Test.YtbmkejiijkbmlaaKitL
import Derived.Test.YtbmkejiijkbmlaaKitO
import Derived.MapViews
namespace Go.Proofs.Ytbmkejiijkbmlaa
open Go.ChangeShapes Go.WideShapes Go.ChangeAt Go.RowKit
set_option linter.unusedVariables false
set_option linter.unusedSimpArgs false

def mapVf (b : Nat) : Value := .map (some b)
theorem zero_map (w : World) : (zeroValue 59).run Try.prog w = .ok (.map none) w := by kernel_rfl
theorem zero_int (w : World) : (zeroValue 3).run Try.prog w = .ok (.int .i64 0) w := by kernel_rfl

/-- A table in memory: the struct at tb, its two maps, the maps that the second one leads to. -/
structure TabAt (w : World) (tb sb cb : Nat) (S : CntL) (C : RowsL) (R : Nat → CntL) : Prop where
  blk : w.heap[tb]? = some (.cells #[.map (some sb), .map (some cb)] 62 (0, 0))
  ones : MapIs w strKf intVf strOk sb S
  twos : MapIs w strKf mapVf strOk cb C
  rows : ∀ p ∈ C, MapIs w strKf intVf strOk p.2 (R p.2)
  sc : sb ≠ cb
  ne : ∀ p ∈ C, p.2 ≠ cb ∧ p.2 ≠ sb
  apart : (C.map (·.2)).Nodup

def tabFoot (tb sb cb : Nat) (C : RowsL) (k : Nat) : Prop := k = tb ∨ k = sb ∨ k = cb ∨ ∃ p ∈ C, p.2 = k

def TabObj (w : World) (tb : Nat) (F : Nat → Prop) (f : ByteArray → Int) (g : ByteArray → ByteArray → Int) : Prop :=
  ∃ sb cb S C R, TabAt w tb sb cb S C R ∧ TabInv S C R f g ∧ F = tabFoot tb sb cb C

section
variable {w w' : World} {tb sb cb : Nat} {S : CntL} {C : RowsL} {R : Nat → CntL} {f : ByteArray → Int} {g : ByteArray → ByteArray → Int}
theorem TabAt.keep {G : Nat → Prop} (h : TabAt w tb sb cb S C R) (hk : Keeps G w w') (hG : ∀ k, tabFoot tb sb cb C k → ¬ G k) : TabAt w' tb sb cb S C R where
  blk := (hk.block tb (Array.getElem?_eq_some_iff.1 h.blk).1 (hG tb (.inl rfl))).trans h.blk
  ones := h.ones.keep hk (hG sb (.inr (.inl rfl)))
  twos := h.twos.keep hk (hG cb (.inr (.inr (.inl rfl))))
  rows := fun p hp => (h.rows p hp).keep hk (hG _ (.inr (.inr (.inr ⟨p, hp, rfl⟩))))
  sc := h.sc
  ne := h.ne
  apart := h.apart
theorem TabAt.foot_lt (h : TabAt w tb sb cb S C R) : ∀ k, tabFoot tb sb cb C k → k < w.heap.size := by
  rintro k (rfl | rfl | rfl | ⟨p, hp, rfl⟩)
  · exact (Array.getElem?_eq_some_iff.1 h.blk).1
  · exact h.ones.lt
  · exact h.twos.lt
  · exact (h.rows p hp).lt
theorem TabAt.tb_ne (h : TabAt w tb sb cb S C R) : tb ≠ sb ∧ tb ≠ cb ∧ ∀ p ∈ C, p.2 ≠ tb := by
  have hb := h.blk
  refine ⟨?_, ?_, ?_⟩
  · rintro rfl
    obtain ⟨es, c, h1, _⟩ := h.ones
    rw [hb] at h1; cases h1
  · rintro rfl
    obtain ⟨es, c, h1, _⟩ := h.twos
    rw [hb] at h1; cases h1
  · rintro p hp e
    obtain ⟨es, c, h1, _⟩ := h.rows p hp
    rw [e, hb] at h1; cases h1
theorem TabAt.cells (h : TabAt w tb sb cb S C R) : w.cell? ⟨tb, 0, none⟩ = some (.map (some sb)) ∧ w.cell? ⟨tb, 1, none⟩ = some (.map (some cb)) := by
  refine ⟨?_, ?_⟩ <;> (rw [cell_of_row w tb _ _ _ _ h.blk]; rfl)
theorem TabObj.own (tb : Nat) (f : ByteArray → Int) (g : ByteArray → ByteArray → Int) : Own1 (fun w F => TabObj w tb F f g) where
  keep := fun h hk hG => by
    obtain ⟨sb, cb, S, C, R, h1, h2, rfl⟩ := h
    exact ⟨sb, cb, S, C, R, h1.keep hk hG, h2, rfl⟩
  lt := fun h => by
    obtain ⟨sb, cb, S, C, R, h1, h2, rfl⟩ := h
    exact h1.foot_lt

theorem look_twos (h : MapIs w strKf mapVf strOk cb C) {key : ByteArray} (hok : key.size ≤ maxLen) :
    (Instr.lookup 60 (.map (some cb)) (.string key) false).run Try.prog w = .ok (.map (mget C key)) w := by
  have := h.look strKey Try.underlying60 zero_map hok
  have e : ((mget C key).map mapVf).getD (.map none) = .map (mget C key) := by cases mget C key <;> rfl
  rw [e] at this
  exact this
theorem look_ones {b : Nat} {r : CntL} (h : MapIs w strKf intVf strOk b r) {key : ByteArray} (hok : key.size ≤ maxLen) :
    (Instr.lookup 59 (.map (some b)) (.string key) false).run Try.prog w = .ok (.int .i64 ((mget r key).getD 0)) w := by
  have := h.look strKey Try.underlying59 zero_int hok
  have e : ((mget r key).map intVf).getD (.int .i64 0) = .int .i64 ((mget r key).getD 0) := by cases mget r key <;> rfl
  rw [e] at this
  exact this

theorem tab_one (h : TabAt w tb sb cb S C R) {key : ByteArray} (hok : key.size ≤ maxLen) (v : Int) :
    ∃ w', (Instr.mapUpdate 59 (.map (some sb)) (.string key) (.int .i64 v)).run Try.prog w = .ok () w' ∧ TabAt w' tb sb cb (mput S key v) C R ∧ Keeps (tabFoot tb sb cb C) w w' := by
  obtain ⟨w', h1, h2, h3, h4⟩ := h.ones.put strKey Try.underlying59 (x := key) hok v
  have hne := h.tb_ne
  refine ⟨w', h1, ⟨?_, h2, ?_, ?_, h.sc, h.ne, h.apart⟩, h3.mono (fun k _ e => .inr (.inl e))⟩
  · exact (h3.block tb (Array.getElem?_eq_some_iff.1 h.blk).1 hne.1).trans h.blk
  · exact h.twos.keep h3 h.sc.symm
  · intro p hp
    exact (h.rows p hp).keep h3 (h.ne p hp).2
theorem tab_store (h : TabAt w tb sb cb S C R) {a : ByteArray} {b : Nat} (hb : mget C a = some b) {x : ByteArray} (hok : x.size ≤ maxLen) (v : Int) :
    ∃ w', (Instr.mapUpdate 59 (.map (some b)) (.string x) (.int .i64 v)).run Try.prog w = .ok () w' ∧ TabAt w' tb sb cb S C (updR R b (mput (R b) x v)) ∧ Keeps (tabFoot tb sb cb C) w w' := by
  have hm := mget_some_mem hb
  obtain ⟨w', h1, h2, h3, h4⟩ := (h.rows _ hm).put strKey Try.underlying59 (x := x) hok v
  have hne := h.tb_ne
  refine ⟨w', h1, ⟨?_, ?_, ?_, ?_, h.sc, h.ne, h.apart⟩, h3.mono (fun k _ e => .inr (.inr (.inr ⟨_, hm, e.symm⟩)))⟩
  · exact (h3.block tb (Array.getElem?_eq_some_iff.1 h.blk).1 (fun e => hne.2.2 _ hm e.symm)).trans h.blk
  · exact h.ones.keep h3 (fun e => (h.ne _ hm).2 e.symm)
  · exact h.twos.keep h3 (fun e => (h.ne _ hm).1 e.symm)
  · intro p hp
    by_cases e : p.2 = b
    · rw [e, updR_same]; exact h2
    · rw [updR_ne R _ e]; exact (h.rows p hp).keep h3 e
theorem tab_new (h : TabAt w tb sb cb S C R) {a : ByteArray} (hb : mget C a = none) (hok : a.size ≤ maxLen) :
    ∃ w', (Instr.mapUpdate 60 (.map (some cb)) (.string a) (.map (some w.heap.size))).run Try.prog (w.alloc (.map #[] 0)) = .ok () w' ∧ TabAt w' tb sb cb S (C ++ [(a, w.heap.size)]) (updR R w.heap.size []) ∧ Keeps (tabFoot tb sb cb C) w w' := by
  have hlt := h.foot_lt
  have hne := h.tb_ne
  have hA : Keeps (fun _ => False) w (w.alloc (.map #[] 0)) := (Keeps.refl _ _).alloc _
  have hs1 := h.twos.alloc (.map #[] 0)
  obtain ⟨w', h1, h2, h3, h4⟩ := hs1.put strKey Try.underlying60 (x := a) hok w.heap.size
  have e2 : mput C a w.heap.size = C ++ [(a, w.heap.size)] := by unfold mput; rw [hb]; simp
  rw [e2] at h2
  have hcb := h.twos.lt
  have hsb := h.ones.lt
  have hfr : ∀ p ∈ C, p.2 ≠ w.heap.size := fun p hp e => by have := (h.rows p hp).lt; omega
  refine ⟨w', h1, ⟨?_, ?_, h2, ?_, h.sc, ?_, ?_⟩, ?_⟩
  · exact (h3.block tb (by have := (Array.getElem?_eq_some_iff.1 h.blk).1; simp; omega) hne.2.1).trans ((hA.block tb (Array.getElem?_eq_some_iff.1 h.blk).1 (fun e => e)).trans h.blk)
  · exact (h.ones.alloc _).keep h3 h.sc
  · intro p hp
    rcases List.mem_append.1 hp with hp | hp
    · rw [updR_ne R _ (hfr p hp)]
      exact ((h.rows p hp).alloc _).keep h3 (h.ne p hp).1
    · simp at hp
      subst hp
      simp only [updR_same]
      exact (MapIs.made w _ _ _).keep h3 (by omega)
  · intro p hp
    rcases List.mem_append.1 hp with hp | hp
    · exact h.ne p hp
    · simp at hp; subst hp; simp only; omega
  · rw [List.map_append, List.nodup_append]
    refine ⟨h.apart, by simp, ?_⟩
    intro x hx c hc
    simp at hc
    subst hc
    obtain ⟨p, hp, rfl⟩ := List.mem_map.1 hx
    exact hfr p hp
  · exact (hA.mono (fun _ _ h => h.elim)).trans h3 (fun k _ e => .inr (.inr (.inl e)))
end

set_option maxRecDepth 20000 in
set_option maxHeartbeats 1000000 in
theorem single_any (tb : Nat) (F : Nat → Prop) (f : ByteArray → Int) (g : ByteArray → ByteArray → Int) (a : ByteArray) (n : Int) (w : World) (h : TabObj w tb F f g) (hok : a.size ≤ maxLen) (n0 : 0 < n) (n1 : f a + n ≤ 1000000) :
    Calls Try.prog 27 #[.pointer (some ⟨tb, 0, none⟩), .string a, .int .i64 n] w fun e w' => e = .returned (.tuple #[]) ∧ ∃ F', TabObj w' tb F' (setF f a n) g ∧ Upd F w F' w' := by
  obtain ⟨sb, cb, S, C, R, hD, hI, rfl⟩ := h
  obtain ⟨c1, c2⟩ := hD.cells
  have hlo := look_ones hD.ones hok
  have f0 := hI.f0 a
  have hI2 := hI.single a n0
  obtain ⟨W1, hrun, hD1, hK1⟩ := tab_one hD hok (f a + n)
  obtain ⟨d1, d2⟩ := hD1.cells
  have hlo1 := look_ones hD1.ones hok
  rw [mget_mput, if_pos rfl] at hlo1
  rw [hI.one] at hlo
  simp only [Option.getD_some] at hlo1
  have HI := Lib.hid hI2
  have HD := Lib.hid hD1
  clear hI2 hD1 hI hD
  generalize f a = v at *
  have hz : ((v + n) == 0) = false := by simp; omega
  have hz' : ¬ v + n = 0 := by omega
  go_enter Try.func27, Try.ntmps27
  go_wp2
  go_end0
  exact ⟨rfl, _, ⟨sb, cb, _, _, _, HD.out, HI.out, rfl⟩, hK1, fun k hk => .inl hk⟩

set_option maxRecDepth 20000 in
set_option maxHeartbeats 2000000 in
theorem pair_any (tb : Nat) (F : Nat → Prop) (f : ByteArray → Int) (g : ByteArray → ByteArray → Int) (a b : ByteArray) (n : Int) (w : World) (h : TabObj w tb F f g) (hoka : a.size ≤ maxLen) (hokb : b.size ≤ maxLen) (n0 : 0 < n) (n1 : g a b + n ≤ 1000000) :
    Calls Try.prog 28 #[.pointer (some ⟨tb, 0, none⟩), .string a, .string b, .int .i64 n] w fun e w' => e = .returned (.tuple #[]) ∧ ∃ F', TabObj w' tb F' f (setG g a b n) ∧ Upd F w F' w' := by
  obtain ⟨sb, cb, S, C, R, hD, hI, rfl⟩ := h
  obtain ⟨c1, c2⟩ := hD.cells
  have hlo := look_twos hD.twos hoka
  have hmm := @run_makeMap Try.prog
  have hnil : ∀ (W : World) (m : Option Nat), (binOp .eql 59 (.map m) (.map none)).run Try.prog W = .ok (.bool m.isNone) W := fun W m => by
    simp only [binOp]
    simp [run_equal_map_nil W _ _ _ m Try.underlying59]
  have g0 := hI.g0 a b
  cases hr : mget C a with
  | some r =>
    rw [hr] at hlo
    have hm := mget_some_mem hr
    have hli := look_ones (hD.rows _ hm) hokb
    have e2 := hI.two a b
    unfold pairN at e2
    rw [hr] at e2
    simp only [Option.bind_some] at e2
    obtain ⟨W2, hrun, hD2, hK2⟩ := tab_store hD hr (x := b) hokb (g a b + n)
    have hI2 := hI.old hD.twos.nodup hD.apart hr (b := b) n0
    simp only [e2] at hli hI2
    obtain ⟨d1, d2⟩ := hD2.cells
    have hlo2 := look_twos hD2.twos hoka
    rw [hr] at hlo2
    have hli2 := look_ones (hD2.rows _ hm) hokb
    simp only [updR_same, mget_mput, if_true, Option.getD_some] at hli2
    have hlen := (hD2.rows _ hm).len Try.underlying59 (ty := 3)
    simp only [updR_same] at hlen
    have hpos : 0 < (mput (R r) b (g a b + n)).length := List.length_pos_iff.2 (mput_ne _ _ _)
    generalize (mput (R r) b (g a b + n)).length = ln at *
    have HI := Lib.hid hI2
    have HD := Lib.hid hD2
    clear hI2 hD2 hI e2
    generalize g a b = v at *
    have hz : ((v + n) == 0) = false := by simp; omega
    have hz' : ¬ v + n = 0 := by omega
    have hl' : ((ln : Int) == 0) = false := by simp; omega
    have hl2 : ¬ (ln : Int) = 0 := by omega
    go_enter Try.func28, Try.ntmps28
    go_wp2
    go_end0
    exact ⟨rfl, _, ⟨sb, cb, _, _, _, HD.out, HI.out, rfl⟩, hK2, fun k hk => .inl hk⟩
  | none =>
    rw [hr] at hlo
    obtain ⟨W1, hrun1, hD1, hK1⟩ := tab_new hD hr hoka
    have hS1 : mget (C ++ [(a, w.heap.size)]) a = some w.heap.size := by rw [mget_append, hr]; simp [mget]
    have hlo1 := look_twos hD1.twos hoka
    rw [hS1] at hlo1
    have hm1 := mget_some_mem hS1
    have hli1 := look_ones (hD1.rows _ hm1) hokb
    simp only [updR_same, mget, Option.getD_none] at hli1
    obtain ⟨W2, hrun, hD2, hK2⟩ := tab_store hD1 hS1 (x := b) hokb n
    obtain ⟨b1, b2⟩ := hD1.cells
    obtain ⟨d1, d2⟩ := hD2.cells
    have hfr : ∀ p ∈ C, p.2 ≠ w.heap.size := fun p hp e => by have := (hD.rows p hp).lt; omega
    have hI2 := hI.new hr (b := b) (r := w.heap.size) hfr n0
    have e3 : updR (updR R w.heap.size []) w.heap.size (mput (updR R w.heap.size [] w.heap.size) b n) = updR R w.heap.size [(b, n)] := by
      funext k
      by_cases e : k = w.heap.size
      · subst e; simp [updR_same, mput, mget]
      · rw [updR_ne _ _ e, updR_ne _ _ e, updR_ne _ _ e]
    rw [e3] at hD2
    have hlo2 := look_twos hD2.twos hoka
    rw [hS1] at hlo2
    have hli2 := look_ones (hD2.rows _ hm1) hokb
    simp only [updR_same, mget, if_true, Option.getD_some] at hli2
    have hlen := (hD2.rows _ hm1).len Try.underlying59 (ty := 3)
    simp only [updR_same, List.length_cons, List.length_nil] at hlen
    have hfoot : ∀ k, tabFoot tb sb cb (C ++ [(a, w.heap.size)]) k → tabFoot tb sb cb C k ∨ w.heap.size ≤ k := by
      rintro k (rfl | rfl | rfl | ⟨p, hp, rfl⟩)
      · exact .inl (.inl rfl)
      · exact .inl (.inr (.inl rfl))
      · exact .inl (.inr (.inr (.inl rfl)))
      · rcases List.mem_append.1 hp with hp | hp
        · exact .inl (.inr (.inr (.inr ⟨p, hp, rfl⟩)))
        · simp at hp; subst hp; exact .inr (Nat.le_refl _)
    have hKK : Keeps (tabFoot tb sb cb C) w W2 := hK1.trans hK2 (fun k hk hf' => by
      rcases hfoot k hf' with h1 | h1
      · exact h1
      · omega)
    have hz : (n == 0) = false := by simp; omega
    have hz' : ¬ n = 0 := by omega
    have HI := Lib.hid hI2
    have HD := Lib.hid hD2
    have HF := Lib.hid hfoot
    clear hI2 hD2 hI hfoot e3 hD1 hm1 hS1 hfr
    go_enter Try.func28, Try.ntmps28
    go_wp2
    go_end0
    exact ⟨rfl, _, ⟨sb, cb, _, _, _, HD.out, HI.out, rfl⟩, hKK, HF.out⟩
end Go.Proofs.Ytbmkejiijkbmlaa
