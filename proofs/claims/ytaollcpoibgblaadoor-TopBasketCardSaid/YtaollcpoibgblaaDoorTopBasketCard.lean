/- Proved: 'TopBasketCardSaid': the tied card of TopBasket. No conditions beyond the row's own; its ties are to the pruned copy of the repository. -/
import Derived.Test.YtaollcpoibgblaaDoorTopBasket
import Derived.Test.YtaollcpoibgblaaDoorCards
import Derived.Test.YtaollcpoibgblaaDoorTie
import Derived.SevenTiedAt
namespace Go.Proofs.YtaollcpoibgblaaDoor
open Go

theorem topBasket_card : Claim7.holds Tryd.pinned (.plain (OpenSpec.ofChange Rows.topBasketSpec)) Rows.topBasketCard :=
  Claim7.holds_tied_plain_at .later [] [.data, .data, .data, .data, .data, .pinned] true (true, "26c4f2c393663d53be8971148cb429e37862d68788cf7b5403ca79883f209d19") false
    topBasket.said (fun _ h => by cases h) (by kernel_rfl) (fun _ h => by cases h) topBasket_row_tie rfl ⟨rfl, rfl⟩ (by kernel_rfl) rfl
    (fun f fn hf hfn => by
      obtain rfl : f = 3 := Option.some.inj ((show Tryd.prog.funcNamed "cicerone/ciceronetop.TopBasket" = some 3 by kernel_rfl).symm.trans hf) |>.symm
      obtain rfl : fn = Tryd.f3 := (Option.some.inj (Tryd.func3.symm.trans hfn)).symm
      exact ⟨by kernel_rfl, fun j t ht => by
        rw [Tryd.params3] at ht
        have hm : t ∈ [22, 5] := by simpa using Array.mem_of_getElem? ht
        have hall : ([22, 5].all fun u => !Tryd.prog.wantsStandIn u) = true := by kernel_rfl
        exact (show Tryd.prog.wantsStandIn t = false by simpa using List.all_eq_true.1 hall t hm)⟩)
    (by kernel_rfl)

theorem topBasketCard_proved : Rows.TopBasketCardSaid := topBasket_card
#print axioms topBasketCard_proved
end Go.Proofs.YtaollcpoibgblaaDoor
