/- The laws' rows of puts; contracts of long and fill. -/
import Derived.Test.YtcladmcbhnmhiaaDdM
import Derived.Test.YtcladmcbhnmhiaaKitT
import Derived.Test.YtcladmcbhnmhiaaKitB
namespace Go.Proofs.Ytcladmcbhnmhiaa
open Go.ChangeShapes Go.WideShapes Go.ChangeAt Go.RowKit Go.Shelf Go.Lib Go.Sort Go.Proofs
set_option linter.unusedVariables false
set_option linter.unusedSimpArgs false

def opCells (a : OpD) : List Value := [.string a.1, .int .i64 a.2]
def OpIn (a : OpD) : Prop := a.1.size ≤ maxLen ∧ (-9223372036854775808 ≤ a.2 ∧ a.2 ≤ 9223372036854775807)
section
variable {H : Type} {enc : TypeId × Value → H} {w : World}
set_option maxRecDepth 100000 in
theorem dec_op : Dec enc Try.prog w 48 opCells OpIn := by
  refine (dec_struct2 Try.underlying48 (by kernel_rfl) rfl (by kernel_rfl) (dec_string Try.underlying9) (dec_int Try.underlying3)).map
    (fun a => (a.1, a.2)) (fun a => rfl) ?_
  rintro ⟨s, x⟩ ⟨h1, h2⟩
  exact ⟨h1, bounds_i64 h2⟩
set_option maxRecDepth 100000 in
theorem dec_ops : Dec enc Try.prog w 22 (slCells (α := OpD)) (SlEx w 2 opCells OpIn) :=
  dec_slice Try.underlying22 (by omega) (by kernel_rfl) (fun _ => rfl) dec_op
end
def OpsAt (w : World) (B : Nat) (A : Option Addr) (l : List OpD) : Prop := Reads w B 2 A l.length (l.flatMap opCells) ∧ ∀ a ∈ l, OpIn a
theorem OpsAt.one {w : World} {B : Nat} {A : Option Addr} {l : List OpD} (h : OpsAt w B A l) {k : Nat} (hk : k < l.length) :
    ∃ b o, A = some ⟨b, o, none⟩ ∧ b < B ∧ w.cell? ⟨b, o + k * 2, none⟩ = some (.string l[k].1) ∧ w.cell? ⟨b, o + k * 2 + 1, none⟩ = some (.int .i64 l[k].2) := by
  obtain ⟨b, o, e, hb, hc⟩ := h.1.2 (by omega)
  have f := fun j (hj : j < 2) => flat_getE (e := opCells) (k := 2) (fun _ => rfl) l k j hk hj
  refine ⟨b, o, e, hb, ?_, ?_⟩
  · have := hc (k * 2 + 0) _ (by rw [f 0 (by omega)]; rfl)
    simpa using this
  · have := hc (k * 2 + 1) _ (by rw [f 1 (by omega)]; rfl)
    simpa [Nat.add_assoc] using this
theorem OpsAt.below {w w' : World} {B : Nat} {A : Option Addr} {l : List OpD} (h : OpsAt w B A l) (hb : Below B w w') : OpsAt w' B A l := ⟨h.1.below hb, h.2⟩
theorem OpsAt.more {w : World} {B B' : Nat} {A : Option Addr} {l : List OpD} (h : OpsAt w B A l) (hb : B ≤ B') : OpsAt w B' A l := ⟨h.1.more hb, h.2⟩

def LongNew (w : World) (l : List OpD) (e : Ending) (w' : World) : Prop := ∃ b, e = .returned (.bool b) ∧ (b = false → (l.length : Int) ≤ 80 ∧ ∀ o ∈ l, (o.1.size : Int) ≤ 60) ∧ Below w.heap.size w w'
set_option maxHeartbeats 4000000 in
set_option maxRecDepth 100000 in
theorem long_any (A : Option Addr) (c : Nat) (l : List OpD) (w : World) (h : OpsAt w w.heap.size A l) (hl : (l.length : Int) ≤ 9223372036854775807) :
    Calls Try.prog 10 #[.slice A l.length c] w (LongNew w l) := by
  have HL := Lib.hid h
  clear h
  go_enter Try.func10, Try.ntmps10
  go_wp2_with fail
  go_loopg [7] l.length (fun rest i wr => ∃ k : Nat, i = .int .i64 k ∧ Hid (k + rest = l.length) ∧ k ≤ l.length ∧ Hid (∀ t (ht : t < l.length), t < k → (l[t].1.size : Int) ≤ 60) ∧ Hid (Below w.heap.size w wr))
  case atStart => exact ⟨0, rfl, Lib.hid (by simp), by omega, Lib.hid (fun t _ h => by omega), Lib.hid (Below.refl _ _)⟩
  case round =>
    obtain ⟨k, rfl, HK, hk0, HN, HB⟩ := hrel
    by_cases hk : (k : Int) < (l.length : Int)
    · have hkl : k < l.length := by omega
      obtain ⟨b, o, rfl, hb, y1, y2⟩ := (HL.out.below HB.out).one hkl
      have hin := HL.out.2 _ (List.getElem_mem hkl)
      by_cases h60 : (60 : Int) < (l[k].1.size : Int)
      · generalize l[k] = x at *
        obtain ⟨s, n⟩ := x
        simp only at y1 y2 h60
        clear hin
        go_wp2
        go_ret
        exact ⟨true, rfl, (by simp), HB.out.alloc HB.out.size _⟩
      · have HN2 : Hid (∀ t (ht : t < l.length), t < k + 1 → (l[t].1.size : Int) ≤ 60) := Lib.hid (fun t ht htk => by
          rcases Nat.lt_or_ge t k with q | q
          · exact HN.out t ht q
          · have : t = k := by omega
            subst this
            omega)
        generalize l[k] = x at *
        obtain ⟨s, n⟩ := x
        simp only at y1 y2 h60
        clear hin
        go_wp2
        go_roundg (gk - 1)
        case measure => have := HK.out; omega
        case rel => exact ⟨k + 1, by go_num, Lib.hid (by have := HK.out; omega), by omega, HN2, Lib.hid (HB.out.alloc HB.out.size _)⟩
    · have hall : ∀ o ∈ l, (o.1.size : Int) ≤ 60 := fun o ho => by
        obtain ⟨t, ht, rfl⟩ := List.getElem_of_mem ho
        exact HN.out t ht (by omega)
      have HA := Lib.hid hall
      clear hall
      go_wp2
      go_ret
      exact ⟨_, rfl, fun e => ⟨by simpa using e, HA.out⟩, HB.out⟩

/-- A slice read on a footprint. -/
def RdH (w : World) (H : Nat → Prop) (size : Nat) (A : Option Addr) (n : Nat) (xs : List Value) : Prop := xs.length = n * size ∧ (0 < n → ∃ b o, A = some ⟨b, o, none⟩ ∧ H b ∧ ∀ j u, xs[j]? = some u → w.cell? ⟨b, o + j, none⟩ = some u)
def SrcsObj (w : World) (H : Nat → Prop) (A : Option Addr) (xs : List SrcD) : Prop := RdH w H 2 A xs.length (srcsC xs) ∧ (∀ s ∈ xs, RdH w H 1 s.adr s.l.length (intC s.l)) ∧ ∀ k, H k → k < w.heap.size
theorem RdH.keep {w w' : World} {H F : Nat → Prop} {size n : Nat} {A : Option Addr} {xs : List Value} (h : RdH w H size A n xs) (hlt : ∀ k, H k → k < w.heap.size) (hk : Keeps F w w') (hF : ∀ k, H k → ¬ F k) : RdH w' H size A n xs :=
  ⟨h.1, fun hn => by
    obtain ⟨b, o, e, hb, hc⟩ := h.2 hn
    exact ⟨b, o, e, hb, fun j u hu => (hk.cell (p := ⟨b, o + j, none⟩) (hlt b hb) (hF b hb)).trans (hc j u hu)⟩⟩
theorem RdH.mono {w : World} {H H' : Nat → Prop} {size n : Nat} {A : Option Addr} {xs : List Value} (h : RdH w H size A n xs) (hH : ∀ k, H k → H' k) : RdH w H' size A n xs :=
  ⟨h.1, fun hn => by
    obtain ⟨b, o, e, hb, hc⟩ := h.2 hn
    exact ⟨b, o, e, hH b hb, hc⟩⟩
theorem RdH.reads {w : World} {H : Nat → Prop} {size n B : Nat} {A : Option Addr} {xs : List Value} (h : RdH w H size A n xs) (hlt : ∀ k, H k → k < B) : Reads w B size A n xs :=
  ⟨h.1, fun hn => by
    obtain ⟨b, o, e, hb, hc⟩ := h.2 hn
    exact ⟨b, o, e, hlt b hb, hc⟩⟩
theorem SrcsObj.own (A : Option Addr) (xs : List SrcD) : Own1 (fun w H => SrcsObj w H A xs) where
  keep := fun h hk hF => ⟨h.1.keep h.2.2 hk hF, fun s hs => (h.2.1 s hs).keep h.2.2 hk hF, fun k hkk => Nat.lt_of_lt_of_le (h.2.2 k hkk) hk.size⟩
  lt := fun h => h.2.2
theorem SrcsObj.at_ {w : World} {H : Nat → Prop} {A : Option Addr} {xs : List SrcD} (h : SrcsObj w H A xs) : SrcsAt w w.heap.size A xs := ⟨h.1.reads h.2.2, fun s hs => (h.2.1 s hs).reads h.2.2⟩
theorem SrcsObj.nil (w : World) : SrcsObj w (fun _ => False) none [] := ⟨⟨rfl, fun h => absurd h (by simp)⟩, by simp, fun _ h => h.elim⟩
/-- What Put gives, on a footprint. -/
theorem RPutNew.obj {w w' : World} {H : Nat → Prop} {A : Option Addr} {xs : List SrcD} {key : ByteArray} {n : Int} {e : Ending} (h : RPutNew w A xs key n e w') (ho : SrcsObj w H A xs) :
    ∃ A' c' ys, e = .returned (.tuple #[.slice A' (List.length ys) c', .bool (rputB (xs.map plS) key n)]) ∧ ys.map plS = rputX (xs.map plS) key n ∧ Below w.heap.size w w' ∧ SrcsObj w' (fun k => H k ∨ (w.heap.size ≤ k ∧ k < w'.heap.size)) A' ys := by
  obtain ⟨A', c', ys, e1, hS, e2, hb, h3, h4⟩ := h
  refine ⟨A', c', ys, e1, e2, hb, ?_, fun s hs => ?_, ?_⟩
  · rcases h3 with ⟨rfl, rfl⟩ | h3
    · exact (ho.1.keep ho.2.2 (Keeps.ofBelow hb (fun _ => False)) (fun _ _ e => e)).mono (fun k hk => .inl hk)
    · refine ⟨hS.1.1, fun hn => ?_⟩
      obtain ⟨b, o, e, hb2, hc⟩ := hS.1.2 hn
      exact ⟨b, o, e, .inr ⟨h3 _ _ _ e, hb2⟩, hc⟩
  · rcases h4 s hs with h4 | h4
    · exact ((ho.2.1 s h4).keep ho.2.2 (Keeps.ofBelow hb (fun _ => False)) (fun _ _ e => e)).mono (fun k hk => .inl hk)
    · have h5 := hS.2 s hs
      refine ⟨h5.1, fun hn => ?_⟩
      obtain ⟨b, o, e, hb2, hc⟩ := h5.2 hn
      exact ⟨b, o, e, .inr ⟨h4 _ _ _ e, hb2⟩, hc⟩
  · rintro k (hk | hk)
    · exact Nat.lt_of_lt_of_le (ho.2.2 k hk) hb.size
    · exact hk.2

def FillNew (w : World) (l : List OpD) (e : Ending) (w' : World) : Prop :=
  ∃ sb A c xs G H, e = .returned (.tuple #[.pointer (some ⟨sb, 0, none⟩), .slice A (List.length xs) c]) ∧ SetObj w' sb G (foldF l) ∧ SrcsObj w' H A xs ∧ xs.map plS = foldX l ∧ Apart G H ∧ (∀ k, G k → w.heap.size ≤ k) ∧ (∀ k, H k → w.heap.size ≤ k) ∧ Below w.heap.size w w'
theorem names_of {xs : List SrcD} {l : List OpD} (h : xs.map plS = foldX l) : NamesUp xs ∧ xs.length ≤ l.length ∧ ∀ s ∈ xs, s.l.length ≤ l.length := by
  have h1 := (foldX_ok l).names
  have h2 := foldX_len l
  rw [← h] at h1 h2
  refine ⟨List.pairwise_map.1 h1, by simpa using h2.1, fun s hs => ?_⟩
  exact h2.2 (plS s) (List.mem_map.2 ⟨s, hs, rfl⟩)

set_option maxHeartbeats 8000000 in
set_option maxRecDepth 100000 in
theorem fill_any (A : Option Addr) (c B : Nat) (l : List OpD) (w : World) (h : OpsAt w B A l) (hB : B ≤ w.heap.size) (hl : (l.length : Int) ≤ 200) :
    Calls Try.prog 12 #[.slice A l.length c] w (FillNew w l) := by
  have HL := Lib.hid h
  clear h
  go_enter Try.func12, Try.ntmps12
  go_wp2_with fail
  refine Calls.mono (dnew_any w) ?_
  rintro e w1 ⟨sb, G1, rfl, hO1, hG1, hb1⟩
  have HO1 := Lib.hid hO1
  have HG1 := Lib.hid hG1
  have HB1 := Lib.hid hb1
  clear hO1 hG1 hb1
  go_wp2_with fail
  go_loopg [5, 16] l.length (fun rest s5 s16 wr => ∃ (k : Nat) (A3 : Option Addr) (c3 : Nat) (xs : List SrcD) (G H : Nat → Prop), s16 = .int .i64 k ∧ s5 = .slice A3 xs.length c3 ∧ Hid (k + rest = l.length) ∧ (k : Int) ≤ 200 ∧ Hid (SetObj wr sb G (foldF (l.take k))) ∧ Hid (SrcsObj wr H A3 xs) ∧ Hid (xs.map plS = foldX (l.take k)) ∧ Hid (Apart G H) ∧ Hid ((∀ k, G k → w.heap.size ≤ k) ∧ (∀ k, H k → w.heap.size ≤ k)) ∧ Hid (Below w.heap.size w wr))
  case atStart => exact ⟨0, none, 0, [], G1, fun _ => False, rfl, rfl, Lib.hid (by simp), by omega, HO1, Lib.hid (SrcsObj.nil _), Lib.hid (by simp [foldX]), Lib.hid (fun _ _ h => h), Lib.hid ⟨HG1.out, fun _ h => h.elim⟩, HB1⟩
  case round =>
    obtain ⟨k, A3, c3, xs, G, H, rfl, rfl, HK, hk0, HO, HS, HX, HAP, HGH, HB⟩ := hrel
    by_cases hk : (k : Int) < (l.length : Int)
    · have hkl : k < l.length := by omega
      obtain ⟨b, o, rfl, hb, y1, y2⟩ := (HL.out.below (HB.out.mono hB)).one hkl
      have hin := HL.out.2 _ (List.getElem_mem hkl)
      have ht := List.take_succ_eq_append_getElem hkl
      have htl : (l.take k).length = k := by rw [List.length_take]; omega
      obtain ⟨nu, nl, nll⟩ := names_of HX.out
      rw [htl] at nl nll
      have hFl := fun q => (foldF_ok (l.take k)).len q
      have HT := Lib.hid ht
      have HNU := Lib.hid (And.intro nu nll)
      have HFL := Lib.hid (And.intro hFl htl)
      clear ht nu nll hFl htl
      generalize l[k] = x at *
      obtain ⟨key, n⟩ := x
      simp only at y1 y2 HT
      obtain ⟨hok, hn1, hn2⟩ := hin
      simp only at hok hn1 hn2
      obtain ⟨Wb, hWb⟩ : ∃ Wb, Wb = wr.alloc (.cells #[.string key, .int .i64 n] 48) := ⟨_, rfl⟩
      have hbb : Below wr.heap.size wr Wb := by rw [hWb]; exact (Below.refl _ wr).alloc (Nat.le_refl _) _
      have hbx0 : Wb.cell? ⟨wr.heap.size, 0, none⟩ = some (.string key) := by rw [hWb]; simp
      have hbx1 : Wb.cell? ⟨wr.heap.size, 1, none⟩ = some (.int .i64 n) := by rw [hWb]; simp
      have hbs : wr.heap.size < Wb.heap.size := by rw [hWb]; simp
      have hSb := (SrcsObj.own A3 xs).below HS.out hbb
      have hOb := (SetObj.own sb _).below HO.out hbb
      have hp := rput07_any A3 c3 xs key n Wb hSb.at_ HNU.out.1 (by omega) (fun s hs => by have := HNU.out.2 s hs; omega) hok
      have HP := Lib.hid hp
      have HSB := Lib.hid hSb
      have HOB := Lib.hid hOb
      have HBB := Lib.hid (And.intro hbb hbs)
      have HBX := Lib.hid (And.intro hbx0 hbx1)
      clear hp hSb hOb hbb hbx0 hbx1 hbs
      go_wp2_with fail
      rw [← hWb]
      clear hWb
      refine Calls.mono HP.out ?_
      rintro e w5 hr5
      obtain ⟨A5, c5, ys, rfl, hy, hb5, hs5⟩ := hr5.obj HSB.out
      have hO5 := (SetObj.own sb _).below HOB.out hb5
      have z0 : w5.cell? ⟨wr.heap.size, 0, none⟩ = some (.string key) := (hb5.cell (p := ⟨wr.heap.size, 0, none⟩) HBB.out.2).trans HBX.out.1
      have z1 : w5.cell? ⟨wr.heap.size, 1, none⟩ = some (.int .i64 n) := (hb5.cell (p := ⟨wr.heap.size, 1, none⟩) HBB.out.2).trans HBX.out.2
      have hq := put_any sb G (foldF (l.take k)) key n w5 hO5 hok (by have := HFL.out.1 key; have := HFL.out.2; omega) hn1 hn2
      have hrb : rputB (xs.map plS) key n = putB (foldF (l.take k)) key n := by rw [HX.out]; exact (foldX_ok _).rputB key n
      rw [hrb]
      have HQ := Lib.hid hq
      have HY := Lib.hid hy
      have HS5 := Lib.hid hs5
      have HB5 := Lib.hid hb5
      have HRB := Lib.hid hrb
      clear hq hy hs5 hb5 hr5 hO5 hrb
      obtain ⟨pb, hpb⟩ : ∃ pb, pb = putB (foldF (l.take k)) key n := ⟨_, rfl⟩
      rw [← hpb]
      have HPB := Lib.hid hpb
      clear hpb
      go_wp2_with fail
      refine Calls.mono HQ.out ?_
      rintro e w7 ⟨G7, rfl, hO7, hU7⟩
      rw [← HPB.out]
      have hgh : ∀ q, G q → q < wr.heap.size := (SetObj.own sb _).lt HO.out
      have hap : Apart G (fun k => H k ∨ (Wb.heap.size ≤ k ∧ k < w5.heap.size)) := fun q hq h => by
        rcases h with h | h
        · exact HAP.out q hq h
        · have := hgh q hq
          have := HBB.out.2
          omega
      obtain ⟨hS7, hap7⟩ := (SrcsObj.own A5 ys).frame hU7 HS5.out hap
      have hB5 : Below w.heap.size w w5 := HB.out.trans ((HBB.out.1.trans (HB5.out.mono HBB.out.1.size)).mono HB.out.size)
      have hB7 : Below w.heap.size w w7 := hU7.belowB hB5 (Nat.le_refl _) HGH.out.1
      have hsz5 := hB5.size
      have HO7 : Hid (SetObj w7 sb G7 (foldF (l.take (k + 1)))) := Lib.hid (by rw [HT.out, foldF_snoc]; exact hO7)
      have HX7 : Hid (ys.map plS = foldX (l.take (k + 1))) := Lib.hid (by rw [HT.out, foldX_snoc, HY.out, HX.out])
      have HGH7 : Hid ((∀ k, G7 k → w.heap.size ≤ k) ∧ ∀ k, (H k ∨ (Wb.heap.size ≤ k ∧ k < w5.heap.size)) → w.heap.size ≤ k) := Lib.hid ⟨fun q hq => by
        rcases hU7.foot q hq with h | h
        · exact HGH.out.1 q h
        · omega, fun q hq => by
        rcases hq with h | h
        · exact HGH.out.2 q h
        · have := HB.out.size
          have := HBB.out.2
          omega⟩
      have HS7 := Lib.hid hS7
      have HAP7 := Lib.hid hap7
      have HB7 := Lib.hid hB7
      have hpbb : (pb != pb) = false := by cases pb <;> rfl
      have hpbe : (pb == pb) = true := by cases pb <;> rfl
      clear hO7 hU7 hgh hap hS7 hap7 hB5 hB7 hsz5 z0 z1
      go_wp2_with fail
      go_roundg (gk - 1)
      case measure => have := HK.out; omega
      case rel => exact ⟨k + 1, A5, c5, ys, G7, _, by go_num, rfl, Lib.hid (by have := HK.out; omega), by omega, HO7, HS7, HX7, HAP7, HGH7, HB7⟩
    · have hke : k = l.length := by have := HK.out; omega
      have htk : l.take k = l := by rw [hke, List.take_length]
      rw [htk] at HO HX
      go_wp2_with fail
      go_ret2
      exact ⟨sb, A3, c3, xs, G, H, rfl, HO.out, HS.out, HX.out, HAP.out, HGH.out.1, HGH.out.2, HB.out⟩
end Go.Proofs.Ytcladmcbhnmhiaa
