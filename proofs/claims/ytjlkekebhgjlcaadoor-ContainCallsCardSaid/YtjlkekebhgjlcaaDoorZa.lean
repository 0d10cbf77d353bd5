/- The card ContainCalls holds: called with any name and arguments, where the library's tables stand as the program's text lays them, the law says true and leaves its arguments as they were. Conditions: the card's own. -/
import Derived.Test.YtjlkekebhgjlcaaDoorBa
import Derived.Test.YtjlkekebhgjlcaaDoorFi
import Derived.Test.YtjlkekebhgjlcaaDoorCards
import Derived.Test.YtjlkekebhgjlcaaDoorTie
import Derived.SevenTiedAt
namespace Go.Proofs.YtjlkekebhgjlcaaDoor
open Go Go.Vc Go.ChangeShapes Go.WideShapes Go.ChangeAt Go.RowKit
set_option maxRecDepth 100000

theorem containCalls_lifted (os : Os) (started : os.Started) (H : Type) (enc : TypeId × Value → H) :
    ReturnsInHanded {} Tryd.checked os 6 .any (fun w args => (Rows.containCallsSpec.pre enc Tryd.prog Tryd.f6 Rows.containCallsRow.domain false w args ∧ laidMetH Tryd.prog Rows.containCallsRow.laid w) ∧ sizedMet enc Tryd.prog Tryd.f6 (OpenSpec.ofChange Rows.containCallsSpec) false w args)
      (Rows.containCallsSpec.post enc Tryd.prog Tryd.f6 false true false false) := by
  refine returnsInHanded_of_change_and (C := Tryd.checked) (X := fun w _ => laidMetH Tryd.prog Rows.containCallsRow.laid w) (fun _ _ _ hh h => h.of_heap hh) Tryd.own started (by kernel_rfl) Tryd.func6
    (ChangeSpec.witness_shaped (enc := enc) (C := Tryd.checked) (os := os) (X := fun w _ => laidMetH Tryd.prog Rows.containCallsRow.laid w) false (World.doorLaid Tryd.prog 400 os) #[.string ByteArray.empty, .slice none 0 0] 8 rfl (World.shaped_of_RefB (by kernel_rfl) (by kernel_rfl)) (by kernel_rfl) (by kernel_rfl) (by kernel_rfl) (door_met os _)) ?_
  intro W base args ds gs before hval0 hW _ hsz hL _
  have hval : ∀ (j : Nat) t v, Tryd.f6.params[j]? = some t → args[j]? = some v → Value.okWide Tryd.prog W .any base t v := hval0
  have hW' := hW
  obtain ⟨p, q, hA0, _⟩ := hW
  have hA : DataW.TrodAll enc Tryd.prog W 0 (fun _ => true) true Tryd.f6.params.toList args.toList ds p := hA0
  rw [Tryd.params6] at hA hval hsz
  obtain ⟨v0, v1, d0, d1, p0, p1, rfl, rfl, _, h0, h1⟩ := trodAll_two hA
  obtain ⟨x0, rfl, rfl, -, _⟩ := Go.ChangeMaps.open_string Tryd.underlying9 (hval 0 9 v0 rfl rfl) h0
  have hs0 : x0.size ≤ 1000000000000000 := small_of (by have h := sized_string hsz (j := 0) (t := 9) rfl rfl; simpa using h)
  obtain ⟨x1, rfl, -, hc1, -, xs1, hx1, hr1, hi1⟩ := arg_of fit34 (hval 1 34 v1 rfl rfl) h1 reads34
  exact told_of_pure Tryd.kids Tryd.full (by rw [Tryd.params6]; decide) (tb := 4) (by kernel_rfl) Tryd.underlying4 rfl hW' rfl rfl rfl (law_calls _ (tab_of rfl hL) x0 x1 xs1 hx1 hr1 hi1)

theorem containCalls_row : Rows.ContainCallsSaid :=
  OpenClaim.holds_of_wide 6 Tryd.f6 rfl rfl rfl rfl rfl rfl rfl ⟨rfl, rfl, rfl, rfl, rfl⟩ rfl rfl rfl rfl rfl (by kernel_rfl) Tryd.func6 (by kernel_rfl)
    (of_decide_eq_true (by kernel_rfl)) (by unfold Func.isWrapper; first | (rw [if_pos (by decide +kernel)]; kernel_rfl) | (rw [if_neg (by decide +kernel)]; exact ⟨rfl, rfl⟩))
    (fun os started H enc _ => containCalls_lifted os started H enc)

theorem containCalls_holds : Rows.ContainCallsCardSaid :=
  Claim7.holds_tied_plain_at .later [] [.data, .data, .data] true (true, "51626d7bfc20b64a1396e6cbf10b164af5868408ade61d6d5b69f7e26545267a") true
    containCalls_row (fun _ h => by cases h) (by kernel_rfl) (fun _ h => by cases h) containCalls_row_tie rfl ⟨rfl, rfl⟩ (by kernel_rfl) rfl
    (fun f fn hf hfn => by
      obtain rfl : f = 6 := Option.some.inj ((show Tryd.prog.funcNamed "simulcast/simulcastlaw29.ContainCalls" = some 6 by kernel_rfl).symm.trans hf) |>.symm
      obtain rfl : fn = Tryd.f6 := (Option.some.inj (Tryd.func6.symm.trans hfn)).symm
      exact ⟨by kernel_rfl, fun j t ht => by
        rw [Tryd.params6] at ht
        have hm : t ∈ [9, 34] := by simpa using Array.mem_of_getElem? ht
        have hall : ([9, 34].all fun u => !Tryd.prog.wantsStandIn u) = true := by kernel_rfl
        exact (show Tryd.prog.wantsStandIn t = false by simpa using List.all_eq_true.1 hall t hm)⟩)
    (by kernel_rfl)
end Go.Proofs.YtjlkekebhgjlcaaDoor
