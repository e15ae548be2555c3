/- slices.Clone, Contains, DeleteFunc in the words of Reads, ownsRow and Keeps. Lemmas over any program. -/
import Derived.Test.YtpbaokhlhhpiiaaKitZ
import Derived.Shelf.SlicesE.Clone
import Derived.Shelf.SlicesE.DeleteFunc
import Derived.Shelf.SlicesE.Index
namespace Go.Proofs.Ytpbaokhlhhpiiaa
open Go.ChangeShapes Go.WideShapes Go.ChangeAt Go.RowKit Go.Shelf Go.Lib Go.Sort Go.Proofs
set_option linter.unusedVariables false
set_option linter.unusedSimpArgs false

section
variable {P : Program} {ρ : Ren}
theorem clone_any (L : SlLaysE0.n41 P ρ) {z : Value} {size bytes : Nat} (hinfo : (P.info? (ρ.t 23)).map (fun i => (i.zero, i.size, i.bytes)) = some (some z, size, bytes)) (hzs : z.cells.size = size) (hsz : 0 < size)
    (z23 : ∀ w, (Go.sizeOf (ρ.t 23)).run P w = .ok size w) (A : Option Addr) (B n c : Nat) (xs : List Value) (w : World) (hr : Reads w B size A n xs) (hn : n ≤ maxLen) (hbig : n * bytes ≤ 140737488355328) (h1 : ∀ u ∈ xs, u.oneCell' = true) (hA : ∀ b o sp, A = some ⟨b, o, sp⟩ → sp = none) :
    Calls P (ρ.f 41) #[.slice A n c] w fun e w' => ∃ A' c', e = .returned (.slice A' n c') ∧ w'.ownsRow w.heap.size (ρ.t 23) size (.slice A' n c') n xs ∧ Below w.heap.size w w' := by
  obtain ⟨i, hi, hz, hz1, hz2⟩ := info_parts hinfo
  cases A with
  | none =>
    have hn0 : n = 0 := by
      rcases Nat.eq_zero_or_pos n with h | h
      · exact h
      · obtain ⟨b, o, e, _⟩ := hr.2 h; cases e
    subst hn0
    have hx : xs = [] := by have := hr.1; simp at this; exact this
    subst hx
    refine (AnyE.slices_Clone_nil L 0 c w).mono ?_
    rintro e w' ⟨rfl, rfl⟩
    exact ⟨none, 0, rfl, ⟨by simp, .inl ⟨rfl, rfl⟩⟩, Below.refl _ _⟩
  | some ad =>
    obtain ⟨b, o, sp⟩ := ad
    obtain rfl := hA b o sp rfl
    refine (AnyE.slices_Clone L i z size bytes hi hz hz1 hz2 hzs hsz z23 b o n c xs w hr.1 hn hbig ?_ h1).mono ?_
    · intro j u hu
      have hj := (List.getElem?_eq_some_iff.1 hu).1
      have hpos : 0 < n := by
        rcases Nat.eq_zero_or_pos n with h | h
        · subst h; have := hr.1; simp at this; subst this; simp at hj
        · exact h
      obtain ⟨b', o', e, _, hc⟩ := hr.2 hpos
      injection e with e
      injection e with e1 e2
      subst e1 e2
      exact hc j u hu
    · rintro e w' ⟨v, rfl, ho, _, hb⟩
      obtain ⟨A', c', rfl⟩ := own_form ho
      exact ⟨A', c', rfl, ho, hb⟩

theorem getE_bang {α : Type} [Inhabited α] (l : List α) (j : Nat) (h : j < l.length) : l[j]! = l[j] := getElem!_pos l j h

theorem contains_any (L : SlLaysE.n31 P ρ) (A : Option Addr) (B c : Nat) (l : List ByteArray) (x : ByteArray) (w : World) (hr : StrsAt w B A l) (hl : l.length ≤ 9223372036854775807) :
    Calls P (ρ.f 31) #[.slice A l.length c, .string x] w fun e w' => e = .returned (.bool (memB x l)) ∧ w = w' := by
  cases l with
  | nil =>
    refine (AnyE.slices_Contains_empty L A c (.string x) w).mono ?_
    rintro e w' ⟨rfl, rfl⟩
    exact ⟨rfl, rfl⟩
  | cons a l' =>
    obtain ⟨b, o, rfl, _, hc⟩ := hr.1.2 (by simp)
    generalize hll : a :: l' = l at *
    refine (AnyE.slices_Contains L (fun s : ByteArray => Value.string s) (fun x y => x.toList == y.toList) (EqlAt.string _ _) b o l.length c l x w (Nat.le_refl _) hl ?_).mono ?_
    · intro j hj
      rw [getE_bang l j hj]
      exact hc j _ (by simp [hj])
    · rintro e w' ⟨rfl, rfl⟩
      refine ⟨ret_bool ?_, rfl⟩
      rw [List.take_length]
      unfold memB
      congr 1
      funext y
      rw [str_beq, decide_eq_decide]
      exact ⟨fun e => e.symm, fun e => e.symm⟩

theorem deleteFunc_any (L : SlLaysH.n10 P ρ) (p : ByteArray → Bool) (g : Nat) (lb : Array Value) (eg : ∀ args w, (callFunc g args).run P w = .ok (.enter g args) w) (v23 : ∀ w, (zeroValue (ρ.t 23)).run P w = .ok (.string ByteArray.empty) w)
    (base : Nat) (e : TypeId) (A : Option Addr) (n c : Nat) (l : List ByteArray) (hn : l.length = n) (w : World) (hown : w.ownsRow base e 1 (.slice A n c) n (l.map Value.string)) (hs : ∀ s ∈ l, s.size ≤ maxLen)
    (hp : ∀ W x, Keeps (fun j => (Value.slice A n c).ownBlock = some j) w W → Calls P g (#[.string x] ++ lb) W fun r w' => r = .returned (.bool (p x)) ∧ ∃ q, w' = W.drewN q) (hnil : A ≠ none) :
    Calls P (ρ.f 10) #[.slice A n c, .func (.func g) #[] lb] w fun r w' => r = .returned (.slice A (l.filter fun x => !p x).length c) ∧ StrsAt w' w'.heap.size A (l.filter fun x => !p x) ∧ Keeps (fun j => (Value.slice A n c).ownBlock = some j) w w' := by
  subst hn
  have hforms : ∃ gb, A = some ⟨gb, 0, none⟩ ∧ l.length ≤ c := by
    rcases hown.2 with ⟨h0, _⟩ | ⟨gb, cap, cur, hv, _, _, hle, _⟩
    · injection h0 with h0; exact absurd h0 hnil
    · injection hv with e1 e2 e3; subst e3; exact ⟨gb, e1, hle⟩
  obtain ⟨gb, rfl, hcap⟩ := hforms
  obtain ⟨hH, hg⟩ := own_holds hown
  have hHK : Holds (fun s : ByteArray => Value.string s) w gb 0 l.toArray := fun j hj => by
    have := hH j (by simpa using hj)
    have hj' : j < l.length := by simpa using hj
    simpa [hj'] using this
  have pr : ∀ (W : World) (d : Array ByteArray), putRow (fun s : ByteArray => Value.string s) W gb 0 d = putRow id W gb 0 (d.toList.map Value.string).toArray := fun W d => by
    unfold putRow
    refine mapBlock_congr _ _ _ _ (fun c _ _ _ => ?_)
    unfold putCells
    apply Array.ext_getElem?
    intro j
    simp only [Array.getElem?_mapIdx]
    congr 1
    funext x
    by_cases hj : j < d.size
    · simp [hj]
    · simp [hj]
  have hlen : (l.map Value.string).length = l.length := by simp
  have hmax : l.length ≤ maxLen := by
    rcases hown.2 with ⟨h0, _⟩ | ⟨gb, cap, cur, hv, _, _, hle, hm, _⟩
    · cases h0
    · omega
  unfold maxLen at hmax
  have := AnyE.slices_DeleteFunc L (fun s : ByteArray => Value.string s) (fun _ => rfl) p g lb eg ByteArray.empty v23 gb 0 c l.toArray w ?_ ?_ hHK (by simp; omega) (by simpa using hcap)
  · simp only [List.size_toArray] at this
    refine this.mono ?_
    rintro r w' ⟨rfl, q, rfl⟩
    have hfl : (l.filter fun x => !p x).length ≤ l.length := List.length_filter_le _ _
    generalize hF : (l.filter fun x => !p x) = fl at *
    have hsz2 : ((fl ++ List.replicate (l.length - fl.length) ByteArray.empty).map Value.string).length = (l.map Value.string).length := by simp; omega
    obtain ⟨o1, o2⟩ := own_put hown hsz2 q #[]
    rw [grow_empty] at o1 o2
    rw [pr]
    refine ⟨rfl, ⟨⟨by simp, fun hpos => ?_⟩, fun s hsm => hs s (by rw [← hF] at hsm; exact (List.mem_filter.1 hsm).1)⟩, o2.mono (fun j _ hj => by subst hj; rfl)⟩
    have hr := Reads.of_own o1
    obtain ⟨b, o, e, hb, hc⟩ := hr.2 (by omega)
    refine ⟨b, o, e, hb, fun j u hu => hc j u ?_⟩
    rw [List.map_append, List.getElem?_append_left (List.getElem?_eq_some_iff.1 hu).1]
    exact hu
  · intro W x hb
    exact hp W x (Keeps.ofBelow hb _)
  · intro m os dk x hdk
    refine hp _ x ?_
    unfold sortWorld
    rw [pr]
    refine ((own_put hown (ys := dk.toList.map Value.string) ?_ m os).2).mono (fun j _ hj => by subst hj; rfl)
    simp at hdk ⊢
    exact hdk
end
end Go.Proofs.Ytpbaokhlhhpiiaa
