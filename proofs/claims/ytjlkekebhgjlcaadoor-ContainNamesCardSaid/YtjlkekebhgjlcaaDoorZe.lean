/- The card ContainNames holds: called with any two numbers, where the library's tables stand as the program's text lays them, the law says true and leaves its arguments as they were. Conditions: the card's own. -/
import Derived.Test.YtjlkekebhgjlcaaDoorBa
import Derived.Test.YtjlkekebhgjlcaaDoorFo
import Derived.Test.YtjlkekebhgjlcaaDoorCards
import Derived.Test.YtjlkekebhgjlcaaDoorTie
import Derived.SevenTiedAt
namespace Go.Proofs.YtjlkekebhgjlcaaDoor
open Go Go.Vc Go.ChangeShapes Go.WideShapes Go.ChangeAt Go.RowKit
set_option maxRecDepth 100000

theorem containNames_lifted (os : Os) (started : os.Started) (H : Type) (enc : TypeId × Value → H) :
    ReturnsInHanded {} Tryd.checked os 7 .any (fun w args => (Rows.containNamesSpec.pre enc Tryd.prog Tryd.f7 Rows.containNamesRow.domain false w args ∧ laidMetH Tryd.prog Rows.containNamesRow.laid w) ∧ sizedMet enc Tryd.prog Tryd.f7 (OpenSpec.ofChange Rows.containNamesSpec) false w args)
      (Rows.containNamesSpec.post enc Tryd.prog Tryd.f7 false true false false) := by
  refine returnsInHanded_of_change_and (C := Tryd.checked) (X := fun w _ => laidMetH Tryd.prog Rows.containNamesRow.laid w) (fun _ _ _ hh h => h.of_heap hh) Tryd.own started (by kernel_rfl) Tryd.func7
    (ChangeSpec.witness_shaped (enc := enc) (C := Tryd.checked) (os := os) (X := fun w _ => laidMetH Tryd.prog Rows.containNamesRow.laid w) false (World.doorLaid Tryd.prog 400 os) #[.int .i64 0, .int .i64 0] 8 rfl (World.shaped_of_RefB (by kernel_rfl) (by kernel_rfl)) (by kernel_rfl) (by kernel_rfl) (by kernel_rfl) (door_met os _)) ?_
  intro W base args ds gs before hval0 hW _ hsz hL _
  have hval : ∀ (j : Nat) t v, Tryd.f7.params[j]? = some t → args[j]? = some v → Value.okWide Tryd.prog W .any base t v := hval0
  have hW' := hW
  obtain ⟨p, q, hA0, _⟩ := hW
  have hA : DataW.TrodAll enc Tryd.prog W 0 (fun _ => true) true Tryd.f7.params.toList args.toList ds p := hA0
  rw [Tryd.params7] at hA hval hsz
  obtain ⟨v0, v1, d0, d1, p0, p1, rfl, rfl, _, h0, h1⟩ := trodAll_two hA
  obtain ⟨x0, rfl, -, hb0⟩ := arg_of fit2 (hval 0 2 v0 rfl rfl) h0 reads2
  obtain ⟨x1, rfl, -, hb1⟩ := arg_of fit2 (hval 1 2 v1 rfl rfl) h1 reads2
  exact told_of_pure Tryd.kids Tryd.full (by rw [Tryd.params7]; decide) (tb := 4) (by kernel_rfl) Tryd.underlying4 rfl hW' rfl rfl rfl (law_names _ (tab_of rfl hL) x0 x1 hb0 hb1)

theorem containNames_row : Rows.ContainNamesSaid :=
  OpenClaim.holds_of_wide 7 Tryd.f7 rfl rfl rfl rfl rfl rfl rfl ⟨rfl, rfl, rfl, rfl, rfl⟩ rfl rfl rfl rfl rfl (by kernel_rfl) Tryd.func7 (by kernel_rfl)
    (of_decide_eq_true (by kernel_rfl)) (by unfold Func.isWrapper; first | (rw [if_pos (by decide +kernel)]; kernel_rfl) | (rw [if_neg (by decide +kernel)]; exact ⟨rfl, rfl⟩))
    (fun os started H enc _ => containNames_lifted os started H enc)

theorem containNames_holds : Rows.ContainNamesCardSaid :=
  Claim7.holds_tied_plain_at .later [] [.data, .data, .data] true (true, "51626d7bfc20b64a1396e6cbf10b164af5868408ade61d6d5b69f7e26545267a") true
    containNames_row (fun _ h => by cases h) (by kernel_rfl) (fun _ h => by cases h) containNames_row_tie rfl ⟨rfl, rfl⟩ (by kernel_rfl) rfl
    (fun f fn hf hfn => by
      obtain rfl : f = 7 := Option.some.inj ((show Tryd.prog.funcNamed "simulcast/simulcastlaw29.ContainNames" = some 7 by kernel_rfl).symm.trans hf) |>.symm
      obtain rfl : fn = Tryd.f7 := (Option.some.inj (Tryd.func7.symm.trans hfn)).symm
      exact ⟨by kernel_rfl, fun j t ht => by
        rw [Tryd.params7] at ht
        have hm : t ∈ [2, 2] := by simpa using Array.mem_of_getElem? ht
        have hall : ([2, 2].all fun u => !Tryd.prog.wantsStandIn u) = true := by kernel_rfl
        exact (show Tryd.prog.wantsStandIn t = false by simpa using List.all_eq_true.1 hall t hm)⟩)
    (by kernel_rfl)
end Go.Proofs.YtjlkekebhgjlcaaDoor
