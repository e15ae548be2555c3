/- Proved: 'TopLateCardSaid': the tied card of TopLate. -/
import Derived.Test.YthbijemihaekiaaGreatDoorTopLate
import Derived.Test.YthbijemihaekiaaGreatDoorCards
import Derived.Test.YthbijemihaekiaaGreatDoorTie
import Derived.SevenTiedAt
namespace Go.Proofs.YthbijemihaekiaaGreatDoor
open Go

theorem topLate_card : Claim7.holds Tryz.pinned (.plain (OpenSpec.ofChange Rows.topLateSpec)) Rows.topLateCard :=
  Claim7.holds_tied_plain_at .later [] [.data, .data, .data, .data, .data, .pinned] true (true, "47b72ff8124479586f863d75776681fd29dfa174b7eadc5f6595b6230a003ed9") false
    topLate.said (fun _ h => by cases h) (by kernel_rfl) (fun _ h => by cases h) topLate_row_tie rfl ⟨rfl, rfl⟩ (by kernel_rfl) rfl
    (fun f fn hf hfn => by
      obtain rfl : f = 3 := Option.some.inj ((show Tryz.prog.funcNamed "cicerone/ciceronetop.TopLate" = some 3 by kernel_rfl).symm.trans hf) |>.symm
      obtain rfl : fn = Tryz.f3 := (Option.some.inj (Tryz.func3.symm.trans hfn)).symm
      exact ⟨by kernel_rfl, fun j t ht => by
        rw [Tryz.params3] at ht
        have hm : t ∈ [22, 5] := by simpa using Array.mem_of_getElem? ht
        have hall : ([22, 5].all fun u => !Tryz.prog.wantsStandIn u) = true := by kernel_rfl
        exact (show Tryz.prog.wantsStandIn t = false by simpa using List.all_eq_true.1 hall t hm)⟩)
    (by kernel_rfl)

theorem topLateCard_proved : Rows.TopLateCardSaid := topLate_card
#print axioms topLateCard_proved
end Go.Proofs.YthbijemihaekiaaGreatDoor
