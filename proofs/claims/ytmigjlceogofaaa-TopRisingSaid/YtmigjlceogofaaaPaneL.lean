/- Contract of (*pane.Panes).Keys: the keys of which there is something in the panes from a tick to a tick, rising. -/
import Derived.Test.YtmigjlceogofaaaPaneK
import Derived.Test.YtmigjlceogofaaaKitF
import Derived.Test.YtmigjlceogofaaaKitR
import Derived.Test.YtmigjlceogofaaaLayR
namespace Go.Proofs.Ytmigjlceogofaaa
open Go.ChangeShapes Go.WideShapes Go.ChangeAt Go.RowKit Go.Shelf Go.Lib Go.Sort Go.Proofs
set_option linter.unusedVariables false
set_option linter.unusedSimpArgs false

theorem str_infoP : (Try.prog.info? 9).map (fun i => (i.zero, i.size, i.bytes)) = some (some (.string ByteArray.empty), 1, 16) := by kernel_rfl
theorem mdel_sub' {κ υ : Type} [DecidableEq κ] {l : List (κ × υ)} {x : κ} {p : κ × υ} (h : p ∈ mdel l x) : p ∈ l := (List.mem_filter.1 h).1
set_option maxHeartbeats 400000 in
theorem kpred_any (n lo hi : Int) (b1 b2 : Nat) (w : World) (h1 : w.cell? ⟨b1, 0, none⟩ = some (.int .i64 lo)) (h2 : w.cell? ⟨b2, 0, none⟩ = some (.int .i64 hi)) :
    Calls Try.prog 104 #[.int .i64 n, .pointer (some ⟨b1, 0, none⟩), .pointer (some ⟨b2, 0, none⟩)] w fun e w' => e = .returned (.bool (inR lo hi n)) ∧ w = w' := by
  unfold inR
  by_cases g : lo ≤ n
  · go_enter Try.func104, Try.ntmps104
    go_wp2
    go_ret
    exact ⟨ret_bool (by simp [g]), rfl⟩
  · go_enter Try.func104, Try.ntmps104
    go_wp2
    go_ret
    exact ⟨ret_bool (by have : decide (lo ≤ n) = false := (by simp; omega); rw [this]; rfl), rfl⟩
theorem enters_kpred : ∀ args w, (callFunc 104 args).run Try.prog w = .ok (.enter 104 args) w := by
  intro args w; kernel_rfl

/-- slices.ContainsFunc over a key's panes. -/
theorem kcontains_any (A : Option Addr) (c : Nat) (ns : List Int) (lo hi : Int) (b1 b2 : Nat) (w : World) (h1 : w.cell? ⟨b1, 0, none⟩ = some (.int .i64 lo)) (h2 : w.cell? ⟨b2, 0, none⟩ = some (.int .i64 hi)) (hb1 : b1 < w.heap.size) (hb2 : b2 < w.heap.size)
    (hr : Reads w w.heap.size 1 A ns.length (ns.map (Value.int .i64))) (hl : (ns.length : Int) ≤ 1048576) :
    Calls Try.prog 103 #[.slice A ns.length c, .func (.func 104) #[] #[.pointer (some ⟨b1, 0, none⟩), .pointer (some ⟨b2, 0, none⟩)]] w fun e w' => e = .returned (.bool (ns.any (inR lo hi))) ∧ ∃ q, w' = w.drewN q :=
  containsFunc_any (P := Try.prog) Try.cfI (Value.int .i64) (inR lo hi) 104 #[.pointer (some ⟨b1, 0, none⟩), .pointer (some ⟨b2, 0, none⟩)] enters_kpred A w.heap.size c ns w
    (by
      intro W x hb
      refine (kpred_any x lo hi b1 b2 W ((hb.cell (p := ⟨b1, 0, none⟩) hb1).trans h1) ((hb.cell (p := ⟨b2, 0, none⟩) hb2).trans h2)).mono ?_
      rintro r w' ⟨rfl, rfl⟩
      exact ⟨rfl, 0, rfl⟩) hr (by omega)

def KeysNew (w : World) (wd : Int) (hist : List AddD) (lo hi : Int) (e : Ending) (w' : World) : Prop :=
  ∃ A c ks, e = .returned (.slice A (List.length ks) c) ∧ KeysOf wd hist lo hi ks ∧ w'.ownsRow w.heap.size 9 1 (.slice A ks.length c) ks.length (ks.map Value.string) ∧ Below w.heap.size w w'

set_option maxRecDepth 20000 in
set_option maxHeartbeats 2000000 in
theorem pkeys_any (pb : Nat) (F : Nat → Prop) (wd : Int) (hist : List AddD) (frm to : Int) (w : World) (h : PaneObj w pb F wd hist)
    (f1 : -1152921504606846976 ≤ frm) (f2 : frm ≤ 1152921504606846976) (t1 : -1152921504606846976 ≤ to) (t2 : to ≤ 1152921504606846976) :
    Calls Try.prog 73 #[.pointer (some ⟨pb, 0, none⟩), .int .i64 frm, .int .i64 to] w (KeysNew w wd hist (frm / wd) (to / wd)) := by
  obtain ⟨bs, br, S, R, hP, hI, rfl⟩ := h
  obtain ⟨c0, c1, c2, c3⟩ := cell_of_panes hP
  have hwd := hI.wide
  have HI := Lib.hid hI
  have HP := Lib.hid hP
  have hlt : pb < w.heap.size := (Array.getElem?_eq_some_iff.1 hP.blk).1
  clear hI hP
  go_enter Try.func73, Try.ntmps73
  go_wp2_with fail
  refine (pof_any pb wd frm _ c0 hwd.1 hwd.2 (by omega) (by omega)).mono ?_
  rintro e w1 ⟨rfl, rfl⟩
  go_wp2_with fail
  refine (pof_any pb wd to _ c0 hwd.1 hwd.2 (by omega) (by omega)).mono ?_
  rintro e w1 ⟨rfl, rfl⟩
  generalize frm / wd = lo at *
  generalize to / wd = hi at *
  obtain ⟨W2, hW2⟩ : ∃ W2, W2 = (w.alloc (Obj.cells #[Value.int IntKind.i64 lo] 3)).alloc (Obj.cells #[Value.int IntKind.i64 hi] 3) := ⟨_, rfl⟩
  have hb2 : Below w.heap.size w W2 := by rw [hW2]; exact ((Below.refl _ _).alloc (Nat.le_refl _) _).alloc (by simp) _
  have z2 : w.heap.size + 1 < W2.heap.size := by rw [hW2]; simp
  have d1 : W2.cell? ⟨w.heap.size, 0, none⟩ = some (.int .i64 lo) := by rw [hW2]; simp
  have d2 : W2.cell? ⟨w.heap.size + 1, 0, none⟩ = some (.int .i64 hi) := by rw [hW2]; simp
  have HP2 := Lib.hid (HP.out.keep (Keeps.ofBelow hb2 (fun _ => False)) (fun _ _ h => h))
  have HFL := Lib.hid HP.out.foot_lt
  have hm := HP2.out.rows
  have hbrlt : br < w.heap.size := HP.out.rows.lt
  clear HP
  have hlen0 : (hist.length : Int) ≤ 1048576 := by have := HI.out.cnt; omega
  go_wp2_with (at_range; rw [← hW2]; refine wpList_range_is rfl _ _ rfl Try.underlying143 rfl hm ?_; intro w0 hrg0 hb0 hs0)
  have hs0' : W2.heap.size < w0.heap.size := by omega
  clear hW2 hm hs0
  go_frame
  go_loopg [9] R.length (fun rest s wr => ∃ (left : RowsL) (ks : List ByteArray) (A : Option Addr) (c : Nat), s = .slice A ks.length c ∧ RangeAt wr strKf rowVf W2.heap.size (some br) left ∧ wr.ownsRow (W2.heap.size + 1) 9 1 (.slice A ks.length c) ks.length (ks.map Value.string) ∧
    Hid ((ks ++ (left.filter (fun p => p.2.ns.any (inR lo hi))).map (·.1)).Perm ((R.filter (fun p => p.2.ns.any (inR lo hi))).map (·.1))) ∧ Hid (∀ p ∈ left, p ∈ R) ∧ Hid (rest = left.length) ∧ Below W2.heap.size W2 wr ∧ W2.heap.size < wr.heap.size)
  case atStart => exact ⟨R, [], none, 0, rfl, hrg0, World.ownsRow_nil _ _ _ _, Lib.hid (by simp), Lib.hid (fun _ h => h), Lib.hid rfl, hb0, by omega⟩
  case round =>
    obtain ⟨left, ks, A, c, rfl, hrg, hown, HPm, HS, HL, hb, hlt2⟩ := hrel
    have e1 : wr.cell? ⟨w.heap.size, 0, none⟩ = some (.int .i64 lo) := (hb.cell (p := ⟨w.heap.size, 0, none⟩) (by show w.heap.size < _; omega)).trans d1
    have e2 : wr.cell? ⟨w.heap.size + 1, 0, none⟩ = some (.int .i64 hi) := (hb.cell (p := ⟨w.heap.size + 1, 0, none⟩) (by show w.heap.size + 1 < _; omega)).trans d2
    have hkl : (ks.length : Int) ≤ 1048576 := by
      have h1 := HPm.out.length_eq
      have h2 := nodup_le (l := (R.filter (fun p => p.2.ns.any (inR lo hi))).map (·.1)) (m := hist.map (·.key)) (keys_nodup HI.out _) (fun x hx => by
        obtain ⟨a, ha, e, _⟩ := histTot_key (wd := wd) (hist := hist) (key := x) (lo := lo) (hi := hi) (by have := (keys_mem HI.out lo hi x).1 hx; omega)
        exact List.mem_map.2 ⟨a, ha, e⟩)
      simp only [List.length_append, List.length_map] at h1 h2
      omega
    go_wp2_with (at_next; refine wpList_next_is rfl _ rfl rfl hrg ?_ ?_)
    · intro h0
      subst h0
      have hp : ks.Perm ((R.filter (fun p => p.2.ns.any (inR lo hi))).map (·.1)) := by simpa using HPm.out
      obtain ⟨M, hM, hMs⟩ := sort_ex (lt := sLt) sLt_irrefl (fun x y z => sLt_trans) (fun x y => sLt_total) (L := ks) (hp.nodup_iff.2 (keys_nodup HI.out _))
      have hK : KeysOf wd hist lo hi M := ⟨hMs, fun k => by rw [← hM.mem_iff, hp.mem_iff]; exact keys_mem HI.out lo hi k⟩
      have q := sortStr (P := Try.prog) Try.sortStrs (W2.heap.size + 1) 9 A ks.length c ks rfl wr hown (by omega) M hM hMs
      have Q := Lib.hid q
      have HKO := Lib.hid hK
      have HML := Lib.hid hM.length_eq
      clear q hK hp HPm HS HL hMs
      (try go_frame)
      go_wp2_with fail
      refine Q.out.mono ?_
      rintro e w3 ⟨rfl, ho3, hk3⟩
      have hb3 : Below w.heap.size w w3 := hb2.trans ((hb.trans (hk3.toBelow hb.size (fun j hj => by have := (hown.lt j hj).1; omega))).mono hb2.size)
      have HO : Hid (w3.ownsRow w.heap.size 9 1 (.slice A M.length c) M.length (M.map Value.string)) := Lib.hid (by rw [← HML.out]; exact own_base ho3 (by omega))
      clear ho3 hk3 Q
      go_wp2
      go_ret
      exact ⟨A, c, M, by rw [← HML.out]; rfl, HKO.out, HO.out, hb3⟩
    · intro x v w3 hmem hrg3 hk3 hz3 hen
      have hR := HS.out _ hmem
      have hz3' : W2.heap.size < w3.heap.size := by omega
      clear hz3
      have hlen : (v.ns.length : Int) ≤ 1048576 := by have := HI.out.lenR _ hR; simp only at this; omega
      have hb3 : Below W2.heap.size W2 w3 := hb.trans (hk3.toBelow hb.size (fun k hk => by omega))
      have hrow : w3.ownsRow 0 3 1 (rowVf v) v.ns.length (v.ns.map (Value.int .i64)) := (HP2.out.keep (Keeps.ofBelow hb3 (fun _ => False)) (fun _ _ h => h)).own _ hR
      have hrd : Reads w3 w3.heap.size 1 v.A v.ns.length (v.ns.map (Value.int .i64)) := Reads.of_own hrow
      have k1 : w3.cell? ⟨w.heap.size, 0, none⟩ = some (.int .i64 lo) := (hb3.cell (p := ⟨w.heap.size, 0, none⟩) (by show w.heap.size < _; omega)).trans d1
      have k2 : w3.cell? ⟨w.heap.size + 1, 0, none⟩ = some (.int .i64 hi) := (hb3.cell (p := ⟨w.heap.size + 1, 0, none⟩) (by show w.heap.size + 1 < _; omega)).trans d2
      have hown3 : w3.ownsRow (W2.heap.size + 1) 9 1 (.slice A ks.length c) ks.length (ks.map Value.string) := hk3.own hown (fun k hk e => by have := (hown.lt k hk).1; omega)
      have hml : (mdel left x).length + 1 = left.length := mdel_len hrg.nodup (p := (x, v)) hmem
      have hperm := mdel_perm hrg.nodup hmem
      have q := kcontains_any v.A v.c v.ns lo hi w.heap.size (w.heap.size + 1) w3 k1 k2 (by omega) (by omega) hrd hlen
      have HSX : Hid (x.size ≤ maxLen) := Lib.hid (HP2.out.rows.ok _ hR)
      have HML := Lib.hid hml
      have HS2 : Hid (∀ p ∈ mdel left x, p ∈ R) := Lib.hid (fun p hp => HS.out _ (mdel_sub' hp))
      have HPF : Hid ((left.filter (fun p => p.2.ns.any (inR lo hi))).Perm (((x, v) :: mdel left x).filter (fun p => p.2.ns.any (inR lo hi)))) := Lib.hid (hperm.filter _)
      simp only [strKf, rowVf] at hen
      clear hml hperm hrow hrd hk3 hown hb e1 e2 k1 k2 HS hmem hrg
      cases hany : v.ns.any (inR lo hi) with
      | true =>
        rw [hany] at q
        have Q := Lib.hid q
        clear q
        have HP3 : Hid (((ks ++ [x]) ++ ((mdel left x).filter (fun p => p.2.ns.any (inR lo hi))).map (·.1)).Perm ((R.filter (fun p => p.2.ns.any (inR lo hi))).map (·.1))) := Lib.hid (by
          refine List.Perm.trans ?_ HPm.out
          rw [List.append_assoc]
          refine List.Perm.append_left _ ?_
          have := (HPF.out.map (·.1)).symm
          rw [List.filter_cons, if_pos hany] at this
          exact this)
        clear HPF HPm hany
        (try go_frame)
        go_wp2_with fail
        refine Q.out.mono ?_
        rintro e w4 ⟨rfl, q, rfl⟩
        have hown4 : (w3.drewN q).ownsRow (W2.heap.size + 1) 9 1 (.slice A ks.length c) ks.length (ks.map Value.string) := ((Keeps.refl (fun _ => False) w3).drewN q).own hown3 (fun _ _ h => h)
        have hrg4 : RangeAt (w3.drewN q) strKf rowVf W2.heap.size (some br) (mdel left x) := hrg3.keep ((Keeps.refl (fun _ => False) w3).drewN q) (fun h => h) (fun _ _ h => h)
        have hb4 : Below W2.heap.size W2 (w3.drewN q) := below_drewN hb3 q
        have hz4 : W2.heap.size < (w3.drewN q).heap.size := hz3'
        clear hown3 hrg3 hb3 Q
        generalize w3.drewN q = w4 at *
        go_wp2_with (at_builtin; refine wpList_append_cell w4 rfl _ _ _ rfl (W2.heap.size + 1) 9 (.string ByteArray.empty) 16 Try.underlying42 str_infoP rfl A ks.length c _ rfl hown4 (.string x) rfl rfl (by omega) (by unfold maxLen; omega) (by omega) ?_; intro A5 c5 w5 hown5 hg5 hb5)
        have hk5 := Keeps.ofGrown hg5
        have hrg5 : RangeAt w5 strKf rowVf W2.heap.size (some br) (mdel left x) := hrg4.keep hk5 (fun e => by have := (hown4.lt _ e.symm).1; omega) (fun b e e' => by cases e; have := (hown4.lt _ e'.symm).1; omega)
        have hb6 : Below W2.heap.size W2 w5 := hb4.trans (hb5.mono (by omega))
        have hlen5 : (ks ++ [x]).length = ks.length + 1 := by simp
        have HO5 : Hid (w5.ownsRow (W2.heap.size + 1) 9 1 (.slice A5 (ks ++ [x]).length c5) (ks ++ [x]).length ((ks ++ [x]).map Value.string)) := Lib.hid (by rw [hlen5, List.map_append]; exact hown5)
        have hz5 := hk5.size
        clear hown5 hown4 hg5 hb5 hrg4 hk5
        go_wp2
        go_roundg (gk - 1)
        case measure => have := HL.out; have := HML.out; omega
        case rel => exact ⟨mdel left x, ks ++ [x], A5, c5, by rw [hlen5], hrg5, HO5.out, HP3, HS2, Lib.hid (by have := HL.out; have := HML.out; omega), hb6, by omega⟩
      | false =>
        rw [hany] at q
        have Q := Lib.hid q
        clear q
        have HP3 : Hid ((ks ++ ((mdel left x).filter (fun p => p.2.ns.any (inR lo hi))).map (·.1)).Perm ((R.filter (fun p => p.2.ns.any (inR lo hi))).map (·.1))) := Lib.hid (by
          refine List.Perm.trans ?_ HPm.out
          refine List.Perm.append_left _ ?_
          have := (HPF.out.map (·.1)).symm
          rw [List.filter_cons, if_neg (by simp [hany])] at this
          exact this)
        clear HPF HPm hany
        (try go_frame)
        go_wp2_with fail
        refine Q.out.mono ?_
        rintro e w4 ⟨rfl, q, rfl⟩
        have hown4 : (w3.drewN q).ownsRow (W2.heap.size + 1) 9 1 (.slice A ks.length c) ks.length (ks.map Value.string) := ((Keeps.refl (fun _ => False) w3).drewN q).own hown3 (fun _ _ h => h)
        have hrg4 : RangeAt (w3.drewN q) strKf rowVf W2.heap.size (some br) (mdel left x) := hrg3.keep ((Keeps.refl (fun _ => False) w3).drewN q) (fun h => h) (fun _ _ h => h)
        have hb4 : Below W2.heap.size W2 (w3.drewN q) := below_drewN hb3 q
        have hz4 : W2.heap.size < (w3.drewN q).heap.size := hz3'
        clear hown3 hrg3 hb3 Q
        generalize w3.drewN q = w4 at *
        go_wp2
        go_roundg (gk - 1)
        case measure => have := HL.out; have := HML.out; omega
        case rel => exact ⟨mdel left x, ks, A, c, rfl, hrg4, hown4, HP3, HS2, Lib.hid (by have := HL.out; have := HML.out; omega), hb4, by omega⟩
end Go.Proofs.Ytmigjlceogofaaa
