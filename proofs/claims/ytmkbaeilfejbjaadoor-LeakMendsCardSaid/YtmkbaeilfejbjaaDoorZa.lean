/- The card LeakMends holds: called with any number of blocks, any used blocks and any reachable ones, where the table of sizes stands as the program's text lays it, the law says true and leaves its arguments as they were. Conditions: the card's own. -/
import Derived.Test.YtmkbaeilfejbjaaDoorBa
import Derived.Test.YtmkbaeilfejbjaaDoorGg
import Derived.Test.YtmkbaeilfejbjaaDoorCards
import Derived.Test.YtmkbaeilfejbjaaDoorTie
import Derived.SevenTiedAt
namespace Go.Proofs.YtmkbaeilfejbjaaDoor
open Go Go.Vc Go.ChangeShapes Go.WideShapes Go.ChangeAt Go.RowKit
set_option maxRecDepth 100000

theorem leakMends_lifted (os : Os) (started : os.Started) (H : Type) (enc : TypeId × Value → H) :
    ReturnsInHanded {} Tryd.checked os 3 .any (fun w args => (Rows.leakMendsSpec.pre enc Tryd.prog Tryd.f3 Rows.leakMendsRow.domain false w args ∧ laidMetH Tryd.prog Rows.leakMendsRow.laid w) ∧ sizedMet enc Tryd.prog Tryd.f3 (OpenSpec.ofChange Rows.leakMendsSpec) false w args)
      (Rows.leakMendsSpec.post enc Tryd.prog Tryd.f3 false true false false) := by
  refine returnsInHanded_of_change_and (C := Tryd.checked) (X := fun w _ => laidMetH Tryd.prog Rows.leakMendsRow.laid w) (fun _ _ _ hh h => h.of_heap hh) Tryd.own started (by kernel_rfl) Tryd.func3
    (ChangeSpec.witness_shaped (enc := enc) (C := Tryd.checked) (os := os) (X := fun w _ => laidMetH Tryd.prog Rows.leakMendsRow.laid w) false (World.doorLaid Tryd.prog 400 os) #[.int .u8 0, .slice none 0 0, .slice none 0 0] 8 rfl (World.shaped_of_RefB (by kernel_rfl) (by kernel_rfl)) (by kernel_rfl) (by kernel_rfl) (by kernel_rfl) (door_met os _)) ?_
  intro W base args ds gs before hval0 hW _ _ hL _
  have hval : ∀ (j : Nat) t v, Tryd.f3.params[j]? = some t → args[j]? = some v → Value.okWide Tryd.prog W .any base t v := hval0
  have hW' := hW
  obtain ⟨p, q, hA0, _⟩ := hW
  have hA : DataW.TrodAll enc Tryd.prog W 0 (fun _ => true) true Tryd.f3.params.toList args.toList ds p := hA0
  rw [Tryd.params3] at hA hval
  obtain ⟨v0, v1, v2, d0, d1, d2, p0, p1, p2, rfl, rfl, _, h0, h1, h2⟩ := trodAll_three hA
  obtain ⟨x0, rfl, -, hb0⟩ := arg_of fit5 (hval 0 5 v0 rfl rfl) h0 reads5
  obtain ⟨x1, rfl, -, hc1, -, xs1, hx1, hr1, -⟩ := arg_of fit22 (hval 1 22 v1 rfl rfl) h1 reads22
  obtain ⟨x2, rfl, -, hc2, -, xs2, hx2, hr2, -⟩ := arg_of fit22 (hval 2 22 v2 rfl rfl) h2 reads22
  exact told_of_pure Tryd.kids Tryd.full (by rw [Tryd.params3]; decide) (tb := 4) (by kernel_rfl) Tryd.underlying4 rfl hW' rfl rfl rfl (law_mends _ (of_laid hL) x0 hb0 x1 x2 xs1 xs2 hx1 hr1 hx2 hr2)

theorem leakMends_row : Rows.LeakMendsSaid :=
  OpenClaim.holds_of_wide 3 Tryd.f3 rfl rfl rfl rfl rfl rfl rfl ⟨rfl, rfl, rfl, rfl, rfl⟩ rfl rfl rfl rfl rfl (by kernel_rfl) Tryd.func3 (by kernel_rfl)
    (of_decide_eq_true (by kernel_rfl)) (by unfold Func.isWrapper; first | (rw [if_pos (by decide +kernel)]; kernel_rfl) | (rw [if_neg (by decide +kernel)]; exact ⟨rfl, rfl⟩))
    (fun os started H enc _ => leakMends_lifted os started H enc)

theorem leakMends_holds : Rows.LeakMendsCardSaid :=
  Claim7.holds_tied_plain_at .later [] [.data] true (true, "f87c1ab39cb34c7ec71f17e15084ad9fb076a570071703635ce9a4b374444b2c") false
    leakMends_row (fun _ h => by cases h) (by kernel_rfl) (fun _ h => by cases h) leakMends_row_tie rfl ⟨rfl, rfl⟩ (by kernel_rfl) rfl
    (fun f fn hf hfn => by
      obtain rfl : f = 3 := Option.some.inj ((show Tryd.prog.funcNamed "simulcast/simulcastlaw16.LeakMends" = some 3 by kernel_rfl).symm.trans hf) |>.symm
      obtain rfl : fn = Tryd.f3 := (Option.some.inj (Tryd.func3.symm.trans hfn)).symm
      exact ⟨by kernel_rfl, fun j t ht => by
        rw [Tryd.params3] at ht
        have hm : t ∈ [5, 22, 22] := by simpa using Array.mem_of_getElem? ht
        have hall : ([5, 22, 22].all fun u => !Tryd.prog.wantsStandIn u) = true := by kernel_rfl
        exact (show Tryd.prog.wantsStandIn t = false by simpa using List.all_eq_true.1 hall t hm)⟩)
    (by kernel_rfl)
end Go.Proofs.YtmkbaeilfejbjaaDoor
