/- law58: the law Forms. -/
import Derived.Test.YtpfghndflegbaaaDoorFu
import Derived.Test.YtpfghndflegbaaaDoorFs
namespace Go.Proofs.YtpfghndflegbaaaDoor
open Go Go.Vc Go.Sort
set_option maxRecDepth 100000
set_option maxHeartbeats 4000000

theorem forms_same (l : List shE.T) : formE l = formRE l := Jd.form_same _ _ _ Jd.same0
theorem law_forms (S : Store) (hT : Lw S) (p : Hd) (l : List shE.T) (hl : l.length = p.2.1) (hr : RowRd S p.1 shE l) : Pure Tryd.prog 5 S [slV p] rB (fun _ b => b = true) := by
  obtain ⟨p, n, c⟩ := p
  simp only at hl hr
  subst hl
  refine pure_vc agrees Tryd.func5 rfl rfl (fun S S' q hle h => h) ?_
  refine ⟨⟨_, rfl, rfl, rfl⟩, .inl ⟨_, _, _, awake_spec S hT, fun S1 _ hS1 _ => ?_⟩⟩
  refine onF ?_
  by_cases c1 : ((l.length : Nat) : Int) > 200
  · exact onE (decide_eq_true c1) ⟨rfl, true, rfl, rfl⟩
  refine offE (decide_eq_false c1) ⟨⟨_, rfl, rfl, rfl⟩, .inl ⟨_, _, _, form_spec S1 (p, l.length, c) l rfl (hr.le hS1) (by omega), fun S2 e hS2 he => ?_⟩⟩
  have he : e = formE l := he
  subst he
  refine ⟨⟨_, rfl, rfl, rfl⟩, .inl ⟨_, _, _, formR_spec S2 (p, l.length, c) l rfl ((hr.le hS1).le hS2) (by omega), fun S3 e hS3 he => ?_⟩⟩
  have he : e = formRE l := he
  subst he
  refine ⟨rfl, _, rfl, ?_⟩
  show (formE l == formRE l) = true
  rw [forms_same, beq_self_eq_true]
end Go.Proofs.YtpfghndflegbaaaDoor
