/- The card ScriptPasses holds: called with any text, bytes and words, where the library's tables stand as the program's text lays them, the law says true and leaves its arguments as they were. Conditions: the card's own. -/
import Derived.Test.YtikpdgjdeikinaaDoorBa
import Derived.Test.YtikpdgjdeikinaaDoorFw
import Derived.Test.YtikpdgjdeikinaaDoorCards
import Derived.Test.YtikpdgjdeikinaaDoorTie
import Derived.SevenTiedAt
namespace Go.Proofs.YtikpdgjdeikinaaDoor
open Go Go.Vc Go.ChangeShapes Go.WideShapes Go.ChangeAt Go.RowKit
set_option maxRecDepth 100000

theorem scriptPasses_lifted (os : Os) (started : os.Started) (H : Type) (enc : TypeId × Value → H) :
    ReturnsInHanded {} Tryd.checked os 4 .any (fun w args => (Rows.scriptPassesSpec.pre enc Tryd.prog Tryd.f4 Rows.scriptPassesRow.domain false w args ∧ laidMetH Tryd.prog Rows.scriptPassesRow.laid w) ∧ sizedMet enc Tryd.prog Tryd.f4 (OpenSpec.ofChange Rows.scriptPassesSpec) false w args)
      (Rows.scriptPassesSpec.post enc Tryd.prog Tryd.f4 false true false false) := by
  refine handed_shaped_and (C := Tryd.checked) (X := fun w _ => laidMetH Tryd.prog Rows.scriptPassesRow.laid w) (fun _ _ _ hh h => h.of_heap hh) Tryd.own started (by kernel_rfl) Tryd.func4
    (ChangeSpec.witness_shaped (enc := enc) (C := Tryd.checked) (os := os) (X := fun w _ => laidMetH Tryd.prog Rows.scriptPassesRow.laid w) false (startW os) #[.string ByteArray.empty, .slice none 0 0, .string ByteArray.empty] 8 (World.laidAll_os _ _ _) (start_shaped os _) (by kernel_rfl) (by kernel_rfl) (by kernel_rfl) (start_met os _)) ?_
  intro W base args ds gs before hval0 hW hsz hL hsh
  have hLw := lw_of rfl hL hsh
  have hval : ∀ (j : Nat) t v, Tryd.f4.params[j]? = some t → args[j]? = some v → Value.okWide Tryd.prog W .any base t v := hval0
  have hW' := hW
  obtain ⟨p, q, hA0, _⟩ := hW
  have hA : DataW.TrodAll enc Tryd.prog W 0 (fun _ => true) true Tryd.f4.params.toList args.toList ds p := hA0
  rw [Tryd.params4] at hA hval hsz
  obtain ⟨v0, v1, v2, d0, d1, d2, p0, p1, p2, rfl, rfl, _, h0, h1, h2⟩ := trodAll_three hA
  obtain ⟨x0, rfl, rfl, -, _⟩ := Go.ChangeMaps.open_string Tryd.underlying9 (hval 0 9 v0 rfl rfl) h0
  obtain ⟨x1, rfl, -, hc1, -, xs1, hx1, hr1, hi1⟩ := arg_of fit33 (hval 1 33 v1 rfl rfl) h1 reads33
  obtain ⟨x2, rfl, rfl, -, _⟩ := Go.ChangeMaps.open_string Tryd.underlying9 (hval 2 9 v2 rfl rfl) h2
  exact told_of_pure Tryd.kids Tryd.full (by rw [Tryd.params4]; decide) (tb := 4) (by kernel_rfl) Tryd.underlying4 rfl hW' rfl rfl rfl (by have := law_passes _ hLw x0.data.toList x1.1 x1.2.1 x1.2.2 xs1 hx1.symm hr1 hi1 x2.data.toList; rw [data_bs, data_bs] at this; exact this)

theorem scriptPasses_row : Rows.ScriptPassesSaid :=
  OpenClaim.holds_of_wide 4 Tryd.f4 rfl rfl rfl rfl rfl rfl rfl ⟨rfl, rfl, rfl, rfl, rfl⟩ rfl rfl rfl rfl rfl (by kernel_rfl) Tryd.func4 (by kernel_rfl)
    (of_decide_eq_true (by kernel_rfl)) (by unfold Func.isWrapper; first | (rw [if_pos (by decide +kernel)]; kernel_rfl) | (rw [if_neg (by decide +kernel)]; exact ⟨rfl, rfl⟩))
    (fun os started H enc _ => scriptPasses_lifted os started H enc)

theorem scriptPasses_holds : Rows.ScriptPassesCardSaid :=
  Claim7.holds_tied_plain_at .later [] [.data, .data, .data, .data, .sentinel, .sentinel, .pinned] true (true, "5be0b002ed69b90a487afc38390c4113827fcb612cf6d376e696ff100f4ade80") true
    scriptPasses_row (fun _ h => by cases h) (by kernel_rfl) (fun _ h => by cases h) scriptPasses_row_tie rfl ⟨rfl, rfl⟩ (by kernel_rfl) rfl
    (fun f fn hf hfn => by
      obtain rfl : f = 4 := Option.some.inj ((show Tryd.prog.funcNamed "simulcast/simulcastlaw63.ScriptPasses" = some 4 by kernel_rfl).symm.trans hf) |>.symm
      obtain rfl : fn = Tryd.f4 := (Option.some.inj (Tryd.func4.symm.trans hfn)).symm
      exact ⟨by kernel_rfl, fun j t ht => by
        rw [Tryd.params4] at ht
        have hm : t ∈ [9, 33, 9] := by simpa using Array.mem_of_getElem? ht
        have hall : ([9, 33, 9].all fun u => !Tryd.prog.wantsStandIn u) = true := by kernel_rfl
        exact (show Tryd.prog.wantsStandIn t = false by simpa using List.all_eq_true.1 hall t hm)⟩)
    (by kernel_rfl)
end Go.Proofs.YtikpdgjdeikinaaDoor
