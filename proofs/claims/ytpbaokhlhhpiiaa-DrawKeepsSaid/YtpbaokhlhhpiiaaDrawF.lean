/- Contract of draw.Sample. -/
import Derived.Test.YtpbaokhlhhpiiaaDrawE
namespace Go.Proofs.Ytpbaokhlhhpiiaa
open Go.ChangeShapes Go.WideShapes Go.ChangeAt Go.RowKit
set_option linter.unusedVariables false
set_option linter.unusedSimpArgs false

/-! ### plain -/
def smpLt (seed : Int) (x y : ByteArray) : Bool := decide (smpCmp seed x y < 0)
theorem cmpStr_lt (x y : ByteArray) : (cmpStr x y < 0 ↔ sLt x y = true) ∧ (cmpStr x y = 0 ↔ x = y) := by
  unfold cmpStr
  cases h1 : sLt x y with
  | true =>
    refine ⟨by simp, by simp; rintro rfl; rw [sLt_irrefl] at h1; cases h1⟩
  | false =>
    cases h2 : sLt y x with
    | true => refine ⟨by simp, by simp; rintro rfl; rw [sLt_irrefl] at h2; cases h2⟩
    | false => exact ⟨by simp, by simp [sLt_total h1 h2]⟩
theorem smp_lt (seed : Int) (x y : ByteArray) : smpLt seed x y = true ↔ hashV seed [x] < hashV seed [y] ∨ (hashV seed [x] = hashV seed [y] ∧ sLt x y = true) := by
  unfold smpLt smpCmp
  rw [decide_eq_true_eq]
  simp only [orV]
  generalize hashV seed [x] = a
  generalize hashV seed [y] = b
  have hs := cmpStr_lt x y
  by_cases h1 : a < b
  · have e : cmpInt a b = -1 := by unfold cmpInt; rw [if_pos h1]
    rw [e]
    simp [h1]
  · by_cases h2 : b < a
    · have e : cmpInt a b = 1 := by unfold cmpInt; rw [if_neg h1, if_pos h2]
      rw [e]
      have : ¬ a = b := by omega
      simp [h1, this]
    · have e : cmpInt a b = 0 := by unfold cmpInt; rw [if_neg h1, if_neg h2]
      have e2 : a = b := by omega
      rw [e]
      simp only [if_true, e2, Int.lt_irrefl, false_or, true_and]
      rw [← hs.1]
      split
      · rename_i h; rw [h]
      · rfl
theorem smp_irrefl (seed : Int) (x : ByteArray) : smpLt seed x x = false := by
  have := smp_lt seed x x
  rw [sLt_irrefl] at this
  simpa using this
theorem smp_trans (seed : Int) (x y z : ByteArray) (h1 : smpLt seed x y = true) (h2 : smpLt seed y z = true) : smpLt seed x z = true := by
  rw [smp_lt] at *
  rcases h1 with h1 | ⟨h1, h1'⟩ <;> rcases h2 with h2 | ⟨h2, h2'⟩
  · exact .inl (by omega)
  · exact .inl (by omega)
  · exact .inl (by omega)
  · exact .inr ⟨by omega, sLt_trans h1' h2'⟩
theorem smp_total (seed : Int) (x y : ByteArray) (h1 : smpLt seed x y = false) (h2 : smpLt seed y x = false) : x = y := by
  have n1 : ¬ smpLt seed x y = true := by simp [h1]
  have n2 : ¬ smpLt seed y x = true := by simp [h2]
  rw [smp_lt] at n1 n2
  have e : hashV seed [x] = hashV seed [y] := by omega
  refine sLt_total ?_ ?_
  · cases h : sLt x y with
    | false => rfl
    | true => exact absurd (.inr ⟨e, h⟩) n1
  · cases h : sLt y x with
    | false => rfl
    | true => exact absurd (.inr ⟨e.symm, h⟩) n2
theorem smp_ntrans (seed : Int) (x y z : ByteArray) (h1 : smpLt seed x y = false) (h2 : smpLt seed y z = false) : smpLt seed x z = false := by
  cases h : smpLt seed x z with
  | false => rfl
  | true =>
    exfalso
    cases hyx : smpLt seed y x with
    | true => have := smp_trans _ _ _ _ hyx h; rw [h2] at this; cases this
    | false =>
      have := smp_total _ _ _ h1 hyx
      subst this
      rw [h] at h2; cases h2

def smpLe (seed : Int) (x y : ByteArray) : Bool := !(smpLt seed y x)
def sampleAll (seed : Int) (l : List ByteArray) : List ByteArray := (onceV l).mergeSort (smpLe seed)
def sampleV (seed n : Int) (l : List ByteArray) : List ByteArray := (sampleAll seed l).take n.toNat

theorem sampleAll_perm (seed : Int) (l : List ByteArray) : (sampleAll seed l).Perm (onceV l) := List.mergeSort_perm _ _
theorem sampleAll_nodup (seed : Int) (l : List ByteArray) : (sampleAll seed l).Nodup := (sampleAll_perm seed l).nodup_iff.2 (nodup_onceV l)
theorem sampleAll_sorted (seed : Int) (l : List ByteArray) : (sampleAll seed l).Pairwise (fun x y => smpLt seed x y = true) := by
  have h1 : (sampleAll seed l).Pairwise (fun x y => smpLe seed x y = true) := List.pairwise_mergeSort (fun a b c h1 h2 => by
      simp only [smpLe, Bool.not_eq_true'] at *
      exact smp_ntrans seed c b a h2 h1) (fun a b => by
      simp only [smpLe, Bool.or_eq_true, Bool.not_eq_true']
      cases h : smpLt seed b a with
      | false => exact .inl rfl
      | true => right; cases h' : smpLt seed a b with
        | false => rfl
        | true => have := smp_trans _ _ _ _ h h'; rw [smp_irrefl] at this; cases this) _
  have h2 := sampleAll_nodup seed l
  refine (List.pairwise_and_iff.2 ⟨h1, h2⟩).imp (fun {x y} h => ?_)
  cases hxy : smpLt seed x y with
  | true => rfl
  | false =>
    have := smp_total seed x y hxy (by have := h.1; simpa [smpLe] using this)
    exact absurd this h.2
theorem sampleAll_unique {seed : Int} {l m : List ByteArray} (h : ∀ y, y ∈ m ↔ y ∈ l) (hn : m.Nodup) (hs : m.Pairwise (fun x y => smpLt seed x y = true)) : m = sampleAll seed l := by
  refine sorted_unique (smpLt seed) (smp_irrefl seed) (smp_trans seed) ?_ hs (sampleAll_sorted seed l)
  exact (perm_of_mem hn (nodup_onceV l) (fun y => by rw [h, mem_onceV])).trans (sampleAll_perm seed l).symm
theorem mem_sampleAll {seed : Int} {l : List ByteArray} {y : ByteArray} : y ∈ sampleAll seed l ↔ y ∈ l := by rw [(sampleAll_perm seed l).mem_iff, mem_onceV]
theorem sampleAll_len (seed : Int) (l : List ByteArray) : (sampleAll seed l).length = (onceV l).length := (sampleAll_perm seed l).length_eq

/-! ### the sort -/
structure StrD where
  s : ByteArray
  ok : s.size ≤ maxLen
instance : Inhabited StrD := ⟨⟨ByteArray.empty, by decide⟩⟩
def strEnc (x : StrD) : Value := .string x.s
def strDs (l : List ByteArray) (h : ∀ s ∈ l, s.size ≤ maxLen) : List StrD := l.attach.map (fun x => ⟨x.1, h x.1 x.2⟩)
theorem strDs_s (l : List ByteArray) (h : ∀ s ∈ l, s.size ≤ maxLen) : (strDs l h).map StrD.s = l := by
  unfold strDs
  rw [List.map_map]
  exact List.attach_map_subtype_val l
theorem strDs_enc (l : List ByteArray) (h : ∀ s ∈ l, s.size ≤ maxLen) : (strDs l h).map strEnc = l.map Value.string := by
  conv => rhs; rw [← strDs_s l h]
  rw [List.map_map]; rfl

set_option maxHeartbeats 1000000 in
theorem sortS_any (seed : Int) (sb : Nat) (base : Nat) (e : TypeId) (A : Option Addr) (n cap : Nat) (l : List ByteArray) (hn : l.length = n) (hs : ∀ s ∈ l, s.size ≤ maxLen) (w : World) (hown : w.ownsRow base e 1 (.slice A n cap) n (l.map Value.string))
    (hc : w.cell? ⟨sb, 0, none⟩ = some (.int .u64 seed)) (hsb : sb < w.heap.size) (hne : (Value.slice A n cap).ownBlock ≠ some sb) (hsz : n < 4611686018427387904) :
    Calls Try.prog 26 #[.slice A n cap, .func (.func 27) #[] #[.pointer (some ⟨sb, 0, none⟩)]] w fun r w' => r = .returned (.tuple #[]) ∧ w'.ownsRow base e 1 (.slice A n cap) n ((l.mergeSort (smpLe seed)).map Value.string) ∧ Keeps (fun j => (Value.slice A n cap).ownBlock = some j) w w' := by
  have eg : ∀ args w, (callFunc 27 args).run Try.prog w = .ok (.enter 27 args) w := enters_of Try.func27 (by kernel_rfl) rfl
  have h := sort1 Try.sortS strEnc (fun _ => rfl) (fun x y : StrD => smpCmp seed x.s y.s)
    ⟨fun x => smp_irrefl seed x.s, fun x y z h1 h2 => smp_trans seed _ _ _ h1 h2, fun x y z h1 h2 => smp_ntrans seed _ _ _ h1 h2⟩
    (fun x y h1 h2 => by
      have := smp_total seed x.s y.s h1 h2
      cases x; cases y; simp at this; subst this; rfl)
    27 #[.pointer (some ⟨sb, 0, none⟩)] eg base e A n cap (strDs l hs) (by rw [← hn]; simp [strDs]) w (by rw [strDs_enc]; exact hown)
    (fun W x y hk => by
      refine scmp_any seed sb x.s y.s x.ok y.ok W ((hk.cell (by exact hsb) (by exact hne)).trans hc) (by have := hk.size; omega)) hsz
  change Calls Try.prog 26 _ _ _ at h
  refine h.mono ?_
  rintro r w' ⟨rfl, ho, hk⟩
  refine ⟨rfl, ?_, hk⟩
  have e1 : ((strDs l hs).mergeSort fun x y => !ltOf (fun x y : StrD => smpCmp seed x.s y.s) y x).map strEnc = (l.mergeSort (smpLe seed)).map Value.string := by
    have := List.map_mergeSort (f := StrD.s) (l := strDs l hs) (r := fun x y => !ltOf (fun x y : StrD => smpCmp seed x.s y.s) y x) (s := smpLe seed) (fun a _ b _ => rfl)
    rw [strDs_s] at this
    rw [← this, List.map_map]
    rfl
  rw [e1] at ho
  exact ho

theorem clone_str {base : Nat} (A : Option Addr) (B n c : Nat) (l : List ByteArray) (w : World) (hr : StrsAt w B A l) (hn : l.length = n) (hl : (l.length : Int) ≤ 1000000) (hA : ∀ b o sp, A = some ⟨b, o, sp⟩ → sp = none) :
    Calls Try.prog 31 #[.slice A n c] w fun e w' => ∃ A' c', e = .returned (.slice A' n c') ∧ w'.ownsRow w.heap.size 9 1 (.slice A' n c') n (l.map Value.string) ∧ Below w.heap.size w w' := by
  subst hn
  have := clone_any Try.cloneS (z := .string ByteArray.empty) (size := 1) (bytes := 16) (by kernel_rfl) rfl (by omega) (fun w => by kernel_rfl) A B l.length c (l.map Value.string) w hr.1 (by unfold maxLen; omega) (by omega) (by intro u hu; obtain ⟨s, _, rfl⟩ := List.mem_map.1 hu; rfl) hA
  exact this
theorem own_sp {w : World} {base : Nat} {e : TypeId} {A : Option Addr} {n c : Nat} {xs : List Value} (h : w.ownsRow base e 1 (.slice A n c) n xs) : (∀ b o sp, A = some ⟨b, o, sp⟩ → sp = none) ∧ n ≤ c := by
  rcases h.2 with ⟨h0, h1⟩ | ⟨g, cap, cur, hv, _, _, hle, _⟩
  · injection h0 with e1 e2 e3
    subst e1
    exact ⟨fun b o sp e => (by cases e), by omega⟩
  · injection hv with e1 e2 e3
    subst e1 e3
    exact ⟨fun b o sp e => by injection e with e; injection e with e1 e2 e3; exact e3.symm, hle⟩

set_option maxHeartbeats 1000000 in
theorem sample_any (seed n : Int) (A : Option Addr) (B c : Nat) (l : List ByteArray) (w : World) (h : StrsAt w B A l) (hB : B ≤ w.heap.size) (hl : (l.length : Int) ≤ 1000000) (hn : n ≤ 9223372036854775807) :
    Calls Try.prog 15 #[.int .u64 seed, .int .i64 n, .slice A l.length c] w fun e w' => ∃ A' c', e = .returned (.slice A' (sampleV seed n l).length c') ∧ w'.ownsRow w.heap.size 9 1 (.slice A' (sampleV seed n l).length c') (sampleV seed n l).length ((sampleV seed n l).map Value.string) ∧ Below w.heap.size w w' := by
  have hlen := onceV_len l
  have hall := sampleAll_len seed l
  have hs : ∀ s ∈ onceV l, s.size ≤ maxLen := fun s hs => h.2 s (mem_onceV.1 hs)
  have hs2 : ∀ s ∈ sampleV seed n l, s.size ≤ maxLen := fun s hs => h.2 s (mem_sampleAll.1 (List.take_subset _ _ hs))
  have hb1 : Below w.heap.size w (w.alloc (.cells #[.int .u64 seed] 22)) := (Below.refl _ _).alloc (Nat.le_refl _) _
  have h1 := (h.below (hb1.mono hB)).more (B' := (w.alloc (.cells #[.int .u64 seed] 22)).heap.size) (by simp; omega)
  have HS := Lib.hid hs
  have HS2 := Lib.hid hs2
  have HALL := Lib.hid hall
  have H1 := Lib.hid h1
  clear hs hs2 hall h1
  go_enter Try.func15, Try.ntmps15
  go_wp2_with fail
  refine (unlike_any A _ c l _ H1.out (Nat.le_refl _) hl).mono ?_
  rintro e w1 ⟨A1, c1, rfl, ho1, hb2⟩
  have hz1 := hb2.size
  simp at hz1
  have hc1 : w1.cell? ⟨w.heap.size, 0, none⟩ = some (.int .u64 seed) := (hb2.cell (p := ⟨w.heap.size, 0, none⟩) (by simp)).trans (by simp)
  have hne : (Value.slice A1 (onceV l).length c1).ownBlock ≠ some w.heap.size := fun e => by
    have := (ho1.lt _ e).1
    simp at this
    omega
  have hb12 : Below w.heap.size w w1 := hb1.trans (hb2.mono (by simp))
  clear hb1 hb2 H1
  go_wp2_with fail
  refine (sortS_any seed w.heap.size _ _ A1 _ c1 (onceV l) rfl HS.out w1 ho1 hc1 (by omega) hne (by omega)).mono ?_
  rintro e w2 ⟨rfl, ho2, hk2⟩
  have hb2 : Below w.heap.size w w2 := hb12.trans (hk2.toBelow (by omega) (fun k hk => by have := (ho1.lt k hk).1; simp at this; omega))
  obtain ⟨hsp, hcap⟩ := own_sp ho2
  have e1 : (onceV l).mergeSort (smpLe seed) = sampleAll seed l := rfl
  rw [e1] at ho2
  have hmin : (min (max n 0) ((onceV l).length : Int)).toNat = (sampleV seed n l).length := by
    unfold sampleV
    rw [List.length_take, HALL.out]
    omega
  have hst : StrsAt w2 w2.heap.size A1 (sampleV seed n l) := by
    have : StrsAt w2 w2.heap.size A1 (sampleAll seed l) := StrsAt.of_own (l := sampleAll seed l) (by rw [HALL.out]; exact ho2) (fun s hs => h.2 s (mem_sampleAll.1 hs))
    exact this.take _
  have hln : ((sampleV seed n l).length : Int) ≤ 1000000 := by rw [← hmin]; omega
  have hcl := clone_str (base := 0) A1 w2.heap.size (min (max n 0) ((onceV l).length : Int)).toNat c1 (sampleV seed n l) w2 hst hmin.symm hln hsp
  have HCL := Lib.hid hcl
  have HM := Lib.hid hmin
  have hb0 := hb12.size
  have hz2 := hb2.size
  clear hcl hmin hst e1 ho2 hk2 hc1 hne ho1 hb12 HS HS2
  generalize (onceV l).length = m at *
  go_wp2_with fail
  refine HCL.out.mono ?_
  rintro e w3 ⟨A3, c3, rfl, ho3, hb3⟩
  rw [HM.out] at ho3 ⊢
  go_wp2
  refine bodyPost_ret (results_tmp rfl _ _ _) rfl ?_
  exact ⟨A3, c3, rfl, own_base ho3 (by omega), hb2.trans (hb3.mono (by omega))⟩
end Go.Proofs.Ytpbaokhlhhpiiaa
