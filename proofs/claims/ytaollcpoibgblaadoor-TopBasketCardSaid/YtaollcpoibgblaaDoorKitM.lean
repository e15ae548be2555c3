/- Maps over any program: a block that holds a list of keys and values; what look-up, store, delete, len and ranging do to it; what worlds keep outside a footprint. No conditions. -/
import Derived.Test.YtaollcpoibgblaaDoorKitA
import Derived.Maps.Keyed
import Derived.Maps.RangeRun
import Derived.Maps.RangeWalk
import Derived.Maps.OwnOps
import Derived.Maps.OwnSet
import Derived.Laws.StructEq
namespace Go.Proofs.YtaollcpoibgblaaDoor
open Go.ChangeShapes Go.WideShapes Go.ChangeAt Go.RowKit
open Go.ChangeMaps (setBlock)
set_option linter.unusedVariables false
set_option linter.unusedSimpArgs false
set_option linter.unusedSectionVars false

/-- Outside F the world w' is as w was; the streams are as they were; no block has gone. -/
structure Keeps (F : Nat → Prop) (w w' : World) : Prop where
  os : w'.os = w.os
  tape : w'.tape = w.tape
  output : w'.output = w.output
  size : w.heap.size ≤ w'.heap.size
  block : ∀ k, k < w.heap.size → ¬ F k → w'.heap[k]? = w.heap[k]?

section
variable {F G : Nat → Prop} {w w' w'' : World}
theorem Keeps.refl (F : Nat → Prop) (w : World) : Keeps F w w := ⟨rfl, rfl, rfl, Nat.le_refl _, fun _ _ _ => rfl⟩
theorem Keeps.mono (h : Keeps F w w') (hFG : ∀ k, k < w.heap.size → F k → G k) : Keeps G w w' := ⟨h.os, h.tape, h.output, h.size, fun k hk hn => h.block k hk (fun hf => hn (hFG k hk hf))⟩
/-- What comes second may write what it likes of the new blocks. -/
theorem Keeps.trans (h : Keeps F w w') (h' : Keeps G w' w'') (hG : ∀ k, k < w.heap.size → G k → F k) : Keeps F w w'' :=
  ⟨h'.os.trans h.os, h'.tape.trans h.tape, h'.output.trans h.output, Nat.le_trans h.size h'.size,
    fun k hk hn => (h'.block k (Nat.lt_of_lt_of_le hk h.size) (fun hg => hn (hG k hk hg))).trans (h.block k hk hn)⟩
theorem Keeps.drew (h : Keeps F w w') : Keeps F w w'.drew := ⟨h.os, h.tape, h.output, h.size, h.block⟩
theorem Keeps.drewN (h : Keeps F w w') (n : Nat) : Keeps F w (w'.drewN n) := ⟨h.os, h.tape, h.output, h.size, h.block⟩
theorem Keeps.below {B : Nat} (h : Below B w w') : Keeps (fun k => B ≤ k) w w' := ⟨h.os, h.tape, h.output, h.size, fun k hk hn => h.block k (by omega)⟩
theorem Keeps.ofBelow (h : Below w.heap.size w w') (F : Nat → Prop) : Keeps F w w' := ⟨h.os, h.tape, h.output, h.size, fun k hk _ => h.block k hk⟩
theorem Keeps.toBelow {B : Nat} (h : Keeps F w w') (hB : B ≤ w.heap.size) (hF : ∀ k, F k → B ≤ k) : Below B w w' := ⟨h.os, h.tape, h.output, h.size, fun k hk => h.block k (by omega) (fun hf => by have := hF k hf; omega)⟩
theorem Keeps.ofGrown {row : Option Nat} (h : w.grownBy w' row) : Keeps (fun k => some k = row) w w' := ⟨h.os, h.tape, h.output, h.size, h.block⟩
theorem Keeps.toGrown {row : Option Nat} (h : Keeps F w w') (hF : ∀ k, k < w.heap.size → F k → some k = row) : w.grownBy w' row := ⟨h.os, h.tape, h.output, h.size, fun k hk hn => h.block k hk (fun hf => hn (hF k hk hf))⟩
theorem Keeps.alloc (h : Keeps F w w') (o : Obj) : Keeps F w (w'.alloc o) :=
  ⟨h.os, h.tape, h.output, Nat.le_trans h.size (by simp), fun k hk hn => (Below.heap_alloc w' o k (Nat.lt_of_lt_of_le hk h.size)).trans (h.block k hk hn)⟩
theorem Keeps.setCell (h : Keeps F w w') {p : Addr} (hp : w.heap.size ≤ p.block ∨ F p.block) (u : Value) : Keeps F w (w'.setCell p u) :=
  ⟨h.os, h.tape, h.output, Nat.le_trans h.size (by simp [World.setCell]), fun k hk hn => (Below.heap_setCell w' p u k (by
    rintro rfl
    rcases hp with hp | hp
    · omega
    · exact hn hp)).trans (h.block k hk hn)⟩
theorem heap_setBlock_ne {b k : Nat} (o : Obj) (h : k ≠ b) : (setBlock w b o).heap[k]? = w.heap[k]? := by
  show (w.heap.setIfInBounds b o)[k]? = _
  rw [Array.getElem?_setIfInBounds_ne (Ne.symm h)]
theorem heap_setBlock_eq {b : Nat} (o : Obj) (h : b < w.heap.size) : (setBlock w b o).heap[b]? = some o := by
  show (w.heap.setIfInBounds b o)[b]? = _
  rw [Array.getElem?_setIfInBounds_self_of_lt h]
theorem size_setBlock {b : Nat} (o : Obj) : (setBlock w b o).heap.size = w.heap.size := by show (w.heap.setIfInBounds b o).size = _; simp
theorem Keeps.setBlock_ (w : World) (b : Nat) (o : Obj) : Keeps (fun k => k = b) w (setBlock w b o) :=
  ⟨rfl, rfl, rfl, by rw [size_setBlock]; exact Nat.le_refl _, fun k _ hn => heap_setBlock_ne o hn⟩
theorem Keeps.cell (h : Keeps F w w') {p : Addr} (hp : p.block < w.heap.size) (hF : ¬ F p.block) : w'.cell? p = w.cell? p := World.cell?_of_block (w := w) (h.block p.block hp hF)
theorem Keeps.frozen (h : Keeps F w w') {p : Addr} (hp : p.block < w.heap.size) (hF : ¬ F p.block) : w'.frozen? p = w.frozen? p := World.frozen?_of_block (w := w) (h.block p.block hp hF)
theorem Keeps.own {base : Nat} {e : TypeId} {size n : Nat} {v : Value} {xs : List Value} (h : Keeps F w w') (ho : w.ownsRow base e size v n xs) (hF : ∀ k, v.ownBlock = some k → ¬ F k) : w'.ownsRow base e size v n xs := by
  refine ⟨ho.1, ?_⟩
  rcases ho.2 with hn | ⟨g, cap, cur, rfl, hb, hgg, rest⟩
  · exact .inl hn
  · exact .inr ⟨g, cap, cur, rfl, hb, (h.block g (Array.getElem?_eq_some_iff.1 hgg).1 (hF g rfl)).trans hgg, rest⟩
theorem Keeps.reads {B size n : Nat} {A : Option Addr} {xs : List Value} (h : Keeps F w w') (hr : Reads w B size A n xs) (hB : B ≤ w.heap.size) (hF : ∀ b o sp, A = some ⟨b, o, sp⟩ → ¬ F b) : Reads w' B size A n xs :=
  ⟨hr.1, fun hn => by
    obtain ⟨b, o, e, hb, hc⟩ := hr.2 hn
    exact ⟨b, o, e, hb, fun j u hu => (h.cell (by simp; omega) (hF b o _ e)).trans (hc j u hu)⟩⟩
end

/-! ### Maps -/
structure KeyFn (P : Program) (k : TypeId) {κ : Type} (kf : κ → Value) (Ok : κ → Prop) : Prop where
  inj : ∀ {x y : κ}, kf x = kf y → x = y
  check : ∀ (w : World) (em : Bool) {x : κ}, Ok x → (Instr.checkKey em 10000 k (kf x)).run P w = .ok () w
  find : ∀ (w : World) {x : κ}, Ok x → ∀ es : List MapEntry, (∀ e ∈ es, ∃ y, Ok y ∧ e.key = kf y) →
    ((Instr.findKey k (kf x) es).run P w = .ok none w ∧ ∀ e ∈ es, e.key ≠ kf x) ∨ ∃ j e, (Instr.findKey k (kf x) es).run P w = .ok (some (j, e.val)) w ∧ es[j]? = some e ∧ e.key = kf x
  stays : ∀ (w : World) {x : κ}, Ok x → (Instr.keyThatStays (kf x) (kf x)).run P w = .ok (kf x) w

theorem KeyFn.of_keyed {P : Program} {k : TypeId} {κ : Type} {kf : κ → Value} {Ok : κ → Prop} (K : Maps.Keyed P k) (inj : ∀ {x y : κ}, kf x = kf y → x = y) (h : ∀ x, Ok x → ∃ l, keyOf P k (kf x) = some l) : KeyFn P k kf Ok where
  inj := inj
  check w em {x} hx := by obtain ⟨l, hl⟩ := h x hx; exact K.check w em hl
  find w {x} hx es hes := by
    obtain ⟨l, hl⟩ := h x hx
    exact K.find w hl es (fun e he => by obtain ⟨y, hy, e1⟩ := hes e he; rw [e1]; exact h y hy)
  stays w {x} hx := by obtain ⟨l, hl⟩ := h x hx; exact K.stays w hl

theorem keyFn_string {P : Program} {k : TypeId} (hk : P.underlying k = some .string) : KeyFn P k (fun s : ByteArray => Value.string s) (fun s => s.size ≤ maxLen) :=
  KeyFn.of_keyed (Maps.string_keyed hk) (fun h => by injection h) (fun x hx => ⟨_, WideMaps.keyOf_string_mk hk hx⟩)

theorem keyFn_i64 {P : Program} {k : TypeId} (hk : P.underlying k = some (.int .i64)) : KeyFn P k (fun n : Int => Value.int .i64 n) (fun n => -9223372036854775808 ≤ n ∧ n ≤ 9223372036854775807) :=
  KeyFn.of_keyed (Maps.int_keyed hk) (fun h => by injection h) (fun x hx => ⟨_, Maps.keyOf_int_mk hk (WalkArith.wf_i64 hx)⟩)

section
variable {κ υ : Type} [DecidableEq κ]

def MapIs (w : World) (kf : κ → Value) (vf : υ → Value) (Ok : κ → Prop) (b : Nat) (l : List (κ × υ)) : Prop :=
  ∃ es clock, w.heap[b]? = some (.map es clock) ∧ es.toList.map (fun e => (e.key, e.val)) = l.map (fun p => (kf p.1, vf p.2)) ∧ es.toList.Pairwise (fun x y => x.born < y.born) ∧
    (∀ e ∈ es.toList, e.born < clock) ∧ (∀ p ∈ l, Ok p.1) ∧ (l.map (·.1)).Nodup

def mget : List (κ × υ) → κ → Option υ
  | [], _ => none
  | (a, v) :: l, x => if x = a then some v else mget l x

theorem mget_append (l m : List (κ × υ)) (x : κ) : mget (l ++ m) x = (mget l x).or (mget m x) := by
  induction l with
  | nil => simp [mget]
  | cons p l ih =>
    obtain ⟨a, v⟩ := p
    by_cases h : x = a
    · simp [mget, h]
    · simp [mget, h, ih]

def mput (l : List (κ × υ)) (x : κ) (v : υ) : List (κ × υ) := if (mget l x).isSome then l.map (fun p => if p.1 = x then (x, v) else p) else l ++ [(x, v)]
def mdel (l : List (κ × υ)) (x : κ) : List (κ × υ) := l.filter (fun p => decide (p.1 ≠ x))

theorem mget_none_iff {l : List (κ × υ)} {x : κ} : mget l x = none ↔ ∀ p ∈ l, p.1 ≠ x := by
  induction l with
  | nil => simp [mget]
  | cons p l ih =>
    obtain ⟨a, v⟩ := p
    by_cases h : x = a
    · subst h; simp [mget]
    · have : ¬ x = a := h
      simp [mget, this, ih, Ne.symm h]
theorem mget_some_mem {l : List (κ × υ)} {x : κ} {v : υ} (h : mget l x = some v) : (x, v) ∈ l := by
  induction l with
  | nil => simp [mget] at h
  | cons p l ih =>
    obtain ⟨a, u⟩ := p
    by_cases hx : x = a
    · subst hx; simp [mget] at h; subst h; simp
    · have : ¬ x = a := hx
      simp [mget, this] at h
      exact List.mem_cons_of_mem _ (ih h)
theorem mget_of_mem {l : List (κ × υ)} (hn : (l.map (·.1)).Nodup) {x : κ} {v : υ} (h : (x, v) ∈ l) : mget l x = some v := by
  induction l with
  | nil => simp at h
  | cons p l ih =>
    obtain ⟨a, u⟩ := p
    simp only [List.map_cons, List.nodup_cons, List.mem_map, not_exists, not_and] at hn
    rcases List.mem_cons.1 h with h | h
    · injection h with h1 h2; subst h1 h2; simp [mget]
    · have hx : x ≠ a := fun e => hn.1 (x, v) h (by simp [e])
      have : ¬ x = a := hx
      simp [mget, this, ih hn.2 h]

variable {P : Program} {k : TypeId} {kf : κ → Value} {vf : υ → Value} {Ok : κ → Prop} {w w' : World} {b : Nat} {l : List (κ × υ)}

theorem MapIs.lt (h : MapIs w kf vf Ok b l) : b < w.heap.size := by
  obtain ⟨es, c, hb, _⟩ := h
  exact (Array.getElem?_eq_some_iff.1 hb).1
theorem MapIs.nodup (h : MapIs w kf vf Ok b l) : (l.map (·.1)).Nodup := by obtain ⟨es, c, _, _, _, _, _, h⟩ := h; exact h
theorem MapIs.ok (h : MapIs w kf vf Ok b l) : ∀ p ∈ l, Ok p.1 := by obtain ⟨es, c, _, _, _, _, h, _⟩ := h; exact h
theorem MapIs.of_block (h : MapIs w kf vf Ok b l) (hb : w'.heap[b]? = w.heap[b]?) : MapIs w' kf vf Ok b l := by
  obtain ⟨es, c, h0, r⟩ := h
  exact ⟨es, c, hb.trans h0, r⟩
theorem MapIs.keep {F : Nat → Prop} (h : MapIs w kf vf Ok b l) (hk : Keeps F w w') (hF : ¬ F b) : MapIs w' kf vf Ok b l := h.of_block (hk.block b h.lt hF)
theorem MapIs.below {B : Nat} (h : MapIs w kf vf Ok b l) (hk : Below B w w') (hF : b < B) : MapIs w' kf vf Ok b l := h.of_block (hk.block b hF)
theorem MapIs.alloc (h : MapIs w kf vf Ok b l) (o : Obj) : MapIs (w.alloc o) kf vf Ok b l := h.of_block (Below.heap_alloc w o b h.lt)
theorem MapIs.drew (h : MapIs w kf vf Ok b l) : MapIs w.drew kf vf Ok b l := h
theorem MapIs.drewN (h : MapIs w kf vf Ok b l) (n : Nat) : MapIs (w.drewN n) kf vf Ok b l := h
theorem MapIs.made (w : World) (kf : κ → Value) (vf : υ → Value) (Ok : κ → Prop) : MapIs (w.alloc (.map #[] 0)) kf vf Ok w.heap.size [] :=
  ⟨#[], 0, heap_alloc_new w _, by simp, by simp, by simp, by simp, by simp⟩

theorem mem_entry {es : Array MapEntry} {l : List (κ × υ)} (hm : es.toList.map (fun e => (e.key, e.val)) = l.map (fun p => (kf p.1, vf p.2))) {j : Nat} {e : MapEntry} (hj : es.toList[j]? = some e) :
    ∃ p, l[j]? = some p ∧ e.key = kf p.1 ∧ e.val = vf p.2 := by
  have h1 : (es.toList.map (fun e => (e.key, e.val)))[j]? = some (e.key, e.val) := by rw [List.getElem?_map, hj]; rfl
  rw [hm, List.getElem?_map] at h1
  cases hl : l[j]? with
  | none => rw [hl] at h1; simp at h1
  | some p => rw [hl] at h1; simp at h1; exact ⟨p, rfl, h1.1.symm, h1.2.symm⟩

theorem MapIs.find (h : MapIs w kf vf Ok b l) (K : KeyFn P k kf Ok) {x : κ} (hx : Ok x) : ∃ es clock, w.heap[b]? = some (.map es clock) ∧
    ((mget l x = none ∧ (Instr.findKey k (kf x) es.toList).run P w = .ok none w) ∨
     ∃ j e v, mget l x = some v ∧ es.toList[j]? = some e ∧ l[j]? = some (x, v) ∧ e.key = kf x ∧ (Instr.findKey k (kf x) es.toList).run P w = .ok (some (j, vf v)) w) := by
  obtain ⟨es, clock, hb, hm, hpw, hcl, hok, hnd⟩ := h
  refine ⟨es, clock, hb, ?_⟩
  rcases K.find w hx es.toList (fun e he => by
      obtain ⟨j, hj⟩ := List.getElem?_of_mem he
      obtain ⟨p, hp, e1, _⟩ := mem_entry hm hj
      exact ⟨p.1, hok p (List.mem_of_getElem? hp), e1⟩) with ⟨h1, h2⟩ | ⟨j, e, h1, h2, h3⟩
  · left
    refine ⟨mget_none_iff.2 (fun p hp => ?_), h1⟩
    obtain ⟨j, hj⟩ := List.getElem?_of_mem hp
    have hlen : es.toList.length = l.length := by simpa using congrArg List.length hm
    have hjl : j < es.toList.length := by rw [hlen]; exact (List.getElem?_eq_some_iff.1 hj).1
    obtain ⟨q, hq, e1, _⟩ := mem_entry hm (List.getElem?_eq_getElem hjl)
    rw [hj] at hq
    injection hq with hq
    subst hq
    intro e2
    exact h2 _ (List.getElem_mem hjl) (by rw [e1, e2])
  · right
    obtain ⟨p, hp, e1, e2⟩ := mem_entry hm h2
    have : p.1 = x := K.inj (e1.symm.trans h3)
    subst this
    exact ⟨j, e, p.2, mget_of_mem hnd (List.mem_of_getElem? hp), h2, hp, h3, by rw [← e2]; exact h1⟩

/-- 'm[k]' -/
theorem MapIs.look (h : MapIs w kf vf Ok b l) (K : KeyFn P k kf Ok) {t e : TypeId} (ht : P.underlying t = some (.map k e)) {z : Value} (hz : ∀ w : World, (zeroValue e).run P w = .ok z w) {x : κ} (hx : Ok x) :
    (Instr.lookup t (.map (some b)) (kf x) false).run P w = .ok (((mget l x).map vf).getD z) w := by
  obtain ⟨es, clock, hb, h1⟩ := h.find (P := P) K hx
  rcases h1 with ⟨h1, h2⟩ | ⟨j, e0, v, h1, _, _, _, h2⟩
  · simp [Instr.lookup, run_underlying ht, MapKept.run_getObj_map hb, K.check w _ hx, h2, hz, h1, Result.andThen]
  · simp [Instr.lookup, run_underlying ht, MapKept.run_getObj_map hb, K.check w _ hx, h2, h1, Result.andThen]

/-- 'v, ok := m[k]' -/
theorem MapIs.lookOk (h : MapIs w kf vf Ok b l) (K : KeyFn P k kf Ok) {t e : TypeId} (ht : P.underlying t = some (.map k e)) {z : Value} (hz : ∀ w : World, (zeroValue e).run P w = .ok z w) {x : κ} (hx : Ok x) :
    (Instr.lookup t (.map (some b)) (kf x) true).run P w = .ok (.tuple #[((mget l x).map vf).getD z, .bool (mget l x).isSome]) w := by
  obtain ⟨es, clock, hb, h1⟩ := h.find (P := P) K hx
  rcases h1 with ⟨h1, h2⟩ | ⟨j, e0, v, h1, _, _, _, h2⟩
  · simp [Instr.lookup, run_underlying ht, MapKept.run_getObj_map hb, K.check w _ hx, h2, hz, h1, Result.andThen]
  · simp [Instr.lookup, run_underlying ht, MapKept.run_getObj_map hb, K.check w _ hx, h2, h1, Result.andThen]

theorem MapIs.len (h : MapIs w kf vf Ok b l) {t e : TypeId} (ht : P.underlying t = some (.map k e)) {ty : TypeId} :
    (Builtin.len_ #[t] ty #[.map (some b)]).run P w = .ok (.int .i64 l.length) w := by
  obtain ⟨es, clock, hb, hm, _⟩ := h
  have hlen : es.size = l.length := by simpa using congrArg List.length hm
  simp [Builtin.len_, run_underlying ht, MapKept.run_getObj_map hb, Result.andThen, hlen, goInt]

theorem nodup_mput {l : List (κ × υ)} (h : (l.map (·.1)).Nodup) (x : κ) (v : υ) : ((mput l x v).map (·.1)).Nodup := by
  unfold mput
  split
  · rename_i hs
    have : (l.map (fun p => if p.1 = x then (x, v) else p)).map (·.1) = l.map (·.1) := by
      rw [List.map_map]
      apply List.map_congr_left
      intro p _
      simp only [Function.comp]
      split
      · rename_i e; exact e.symm
      · rfl
    rw [this]; exact h
  · rename_i hs
    have hn : mget l x = none := Option.not_isSome_iff_eq_none.1 hs
    rw [List.map_append, List.nodup_append]
    refine ⟨h, by simp, ?_⟩
    intro a ha c hc
    simp at hc
    subst hc
    obtain ⟨p, hp, rfl⟩ := List.mem_map.1 ha
    exact mget_none_iff.1 hn p hp

theorem mget_mput {l : List (κ × υ)} (x : κ) (v : υ) (y : κ) : mget (mput l x v) y = if y = x then some v else mget l y := by
  unfold mput
  split
  · rename_i hs
    obtain ⟨u, hu⟩ := Option.isSome_iff_exists.1 hs
    clear hs
    induction l with
    | nil => simp [mget] at hu
    | cons p l ih =>
      obtain ⟨a, c⟩ := p
      by_cases hax : a = x
      · subst hax
        by_cases hy : y = a
        · subst hy; simp [mget]
        · have h1 : ¬ y = a := hy
          simp only [List.map_cons, if_true, mget, h1, hy, if_false]
          clear ih hu
          induction l with
          | nil => rfl
          | cons q l ih =>
            obtain ⟨a', c'⟩ := q
            by_cases hq : a' = a
            · subst hq; simp [mget, h1, ih]
            · simp only [List.map_cons, hq, if_false, mget, ih]
      · have h1 : ¬ x = a := Ne.symm hax
        simp [mget, h1] at hu
        simp only [List.map_cons, hax, if_false, mget]
        by_cases hy : y = a
        · subst hy; simp [hax]
        · have h2 : ¬ y = a := hy
          simp only [h2]
          exact ih hu
  · rename_i hs
    have hn : mget l x = none := Option.not_isSome_iff_eq_none.1 hs
    rw [mget_append]
    by_cases hy : y = x
    · subst hy; simp [hn, mget]
    · have h2 : ¬ y = x := hy
      simp [mget, h2, hy]

/-- 'm[k] = v' -/
theorem MapIs.put (h : MapIs w kf vf Ok b l) (K : KeyFn P k kf Ok) {t e : TypeId} (ht : P.underlying t = some (.map k e)) {x : κ} (hx : Ok x) (v : υ) :
    ∃ w', (Instr.mapUpdate t (.map (some b)) (kf x) (vf v)).run P w = .ok () w' ∧ MapIs w' kf vf Ok b (mput l x v) ∧ Keeps (fun k => k = b) w w' ∧ w'.heap.size = w.heap.size := by
  have hlt := h.lt
  have hf := h.find (P := P) K hx
  obtain ⟨es, clock, hb, hm, hpw, hcl, hok, hnd⟩ := h
  obtain ⟨es', clock', hb', h1⟩ := hf
  rw [hb] at hb'
  injection hb' with hb'
  injection hb' with e1 e2
  subst e1 e2
  have hlen : es.toList.length = l.length := by simpa using congrArg List.length hm
  rcases h1 with ⟨h1, h2⟩ | ⟨j, e0, u, h1, hj, hlj, hkey, h2⟩
  · refine ⟨setBlock w b (.map (es.push ⟨kf x, vf v, clock⟩) (clock + 1)), ?_, ?_, Keeps.setBlock_ _ _ _, size_setBlock _⟩
    · simp [Instr.mapUpdate, run_underlying ht, MapKept.run_getObj_map hb, K.check w false hx, h2, MapKept.run_setObj_map _ hb, Result.andThen, setBlock]
    · refine ⟨_, _, heap_setBlock_eq _ hlt, ?_, ?_, ?_, ?_, nodup_mput hnd x v⟩
      · simp [mput, h1, hm]
      · rw [Array.toList_push, List.pairwise_append]
        exact ⟨hpw, by simp, fun a ha c hc => by simp at hc; subst hc; exact hcl a ha⟩
      · intro a ha
        rw [Array.toList_push] at ha
        rcases List.mem_append.1 ha with ha | ha
        · have := hcl a ha; omega
        · simp at ha; subst ha; exact Nat.lt_succ_self _
      · intro p hp
        simp only [mput, h1, Option.isSome_none, Bool.false_eq_true, if_false, List.mem_append, List.mem_singleton] at hp
        rcases hp with hp | rfl
        · exact hok p hp
        · exact hx
  · have hjs : es[j]? = some e0 := by simpa using hj
    refine ⟨setBlock w b (.map (es.modify j fun e => { e with key := kf x, val := vf v }) clock), ?_, ?_, Keeps.setBlock_ _ _ _, size_setBlock _⟩
    · simp [Instr.mapUpdate, run_underlying ht, MapKept.run_getObj_map hb, K.check w false hx, h2, hjs, hkey, K.stays w hx, MapKept.run_setObj_map _ hb, Result.andThen, setBlock]
    · have hmod : (es.modify j fun e => { e with key := kf x, val := vf v }).toList = es.toList.set j { e0 with key := kf x, val := vf v } := by
        apply List.ext_getElem?
        intro i
        simp only [Array.getElem?_toList, Array.getElem?_modify, List.getElem?_set]
        by_cases hij : j = i
        · subst hij
          simp [hjs]
          exact (Array.getElem?_eq_some_iff.1 hjs).1
        · simp [hij]
      have hmp : mput l x v = l.set j (x, v) := by
        unfold mput
        rw [h1]
        simp only [Option.isSome_some, if_true]
        apply List.ext_getElem?
        intro i
        rw [List.getElem?_map, List.getElem?_set]
        by_cases hij : j = i
        · subst hij
          have hjl : j < l.length := (List.getElem?_eq_some_iff.1 hlj).1
          rw [hlj, if_pos rfl, if_pos hjl]
          simp
        · simp only [hij, if_false]
          cases hi : l[i]? with
          | none => rfl
          | some p =>
            have hne : p.1 ≠ x := by
              intro e
              have hjl : j < l.length := (List.getElem?_eq_some_iff.1 hlj).1
              have hil : i < l.length := (List.getElem?_eq_some_iff.1 hi).1
              have a1 : (l.map (·.1))[j]'(by simpa using hjl) = x := by
                have := (List.getElem?_eq_some_iff.1 hlj).2
                simp [this]
              have a2 : (l.map (·.1))[i]'(by simpa using hil) = x := by
                have := (List.getElem?_eq_some_iff.1 hi).2
                simp [this, e]
              exact hij ((List.getElem_inj hnd).1 (a1.trans a2.symm))
            simp [hne]
      refine ⟨_, _, heap_setBlock_eq _ hlt, ?_, ?_, ?_, ?_, nodup_mput hnd x v⟩
      · rw [hmod, hmp, List.map_set, List.map_set, hm]
      · rw [hmod]
        have hb0 : ∀ (q : MapEntry → MapEntry → Prop), True := fun _ => trivial
        rw [List.pairwise_iff_getElem] at hpw ⊢
        intro i i' hi hi' hlt'
        rw [List.length_set] at hi hi'
        have e0b : es.toList[j]'((List.getElem?_eq_some_iff.1 hj).1) = e0 := (List.getElem?_eq_some_iff.1 hj).2
        have := hpw i i' hi hi' hlt'
        simp only [List.getElem_set]
        split <;> split
        · omega
        · rename_i h3 _; subst h3; rw [e0b] at this; exact this
        · rename_i _ h3; subst h3; rw [e0b] at this; exact this
        · exact this
      · intro a ha
        rw [hmod] at ha
        rcases List.mem_or_eq_of_mem_set ha with ha | rfl
        · exact hcl a ha
        · exact hcl e0 (List.mem_of_getElem? hj)
      · intro p hp
        rw [hmp] at hp
        rcases List.mem_or_eq_of_mem_set hp with hp | rfl
        · exact hok p hp
        · exact hx
end
end Go.Proofs.YtaollcpoibgblaaDoor
