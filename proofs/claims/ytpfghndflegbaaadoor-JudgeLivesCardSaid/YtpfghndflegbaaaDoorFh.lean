/- law58: the judge's Form. -/
import Derived.Test.YtpfghndflegbaaaDoorFg
namespace Go.Proofs.YtpfghndflegbaaaDoor
open Go Go.Vc
set_option maxRecDepth 100000

def formE (l : List shE.T) : Int := Jd.formJ Jd.th0 (l.map evOf)
theorem f_nil : fOf [] = Jd.th0 := rfl
theorem form_step {f : Int → Jd.Th} {x : shE.T} {l : List shE.T} : Jd.formJ f ((x :: l).map evOf) = if (Jd.evJ f (evOf x)).1 ≠ 0 then (Jd.evJ f (evOf x)).1 else Jd.formJ (Jd.evJ f (evOf x)).2 (l.map evOf) := rfl
theorem form_spec (S : Store) (p : Hd) (l : List shE.T) (hl : l.length = p.2.1) (hr : RowRd S p.1 shE l) (hn : l.length ≤ 1000000000000000) :
    Pure Tryd.prog 17 S [slV p] rI (fun _ n => n = formE l) := by
  obtain ⟨p, n, c⟩ := p
  simp only at hl hr
  subst hl
  refine pure_vc agrees Tryd.func17 rfl rfl (fun S S' q hle h => h) ?_
  refine ⟨[], [], Nat × Ths, [5, 6] ++ List.range' 11 10, fun a => [(10, rI a.1)], fun a => [.map shI shTh a.2], fun _ => S, fun a => a.1 ≤ l.length ∧ keysOnce (k := shI) a.2 ∧ formE l = Jd.formJ (fOf a.2) ((l.drop a.1).map evOf), fun a => l.length - a.1, ?_⟩
  refine And.intro (Exists.intro (0, []) (And.intro (And.intro (And.intro ?_ rfl) (And.intro rfl (Store.le_refl _))) ⟨Nat.zero_le _, List.nodup_nil, by rw [f_nil]; rfl⟩)) ?_
  · repeat' first | exact trivial | exact rfl | refine And.intro ?_ ?_
  rintro ⟨i, es⟩ ⟨hi, hes, hf⟩
  have hi : i ≤ l.length := hi
  have i0 : (0 : Int) ≤ ((i : Nat) : Int) := Int.natCast_nonneg _
  refine And.intro (fun h => ?_) (fun h => ?_)
  · have hil : i < l.length := by
      have : ((i : Nat) : Int) < ((l.length : Nat) : Int) := of_decide_eq_true h
      omega
    obtain ⟨y, hy⟩ : ∃ y, l[i]? = some y := ⟨_, List.getElem?_eq_getElem hil⟩
    obtain ⟨b, o, hp, hok, hrd⟩ := row_at hr hy
    have hdr : l.drop i = y :: l.drop (i + 1) := by
      rw [← List.getElem_cons_drop hil]
      congr 1
      rw [List.getElem?_eq_getElem hil] at hy
      exact Option.some.inj hy
    rw [hdr, form_step] at hf
    refine ⟨i0, by show ((i : Nat) : Int) < (l.length : Int); omega, b, o, hp, y, hok, hrd, ⟨_, rfl, rfl, rfl⟩, .inr (.inl ⟨[0], _, _, _, _, rfl, event_spec S es hes y, fun S1 q hS1 hq => ?_⟩)⟩
    obtain ⟨e, es'⟩ := q
    obtain ⟨hq1, hq2⟩ := hq
    have hq1 : e = (Jd.evJ (fOf es) (evOf y)).1 := hq1
    have hq2 : e = 0 → keysOnce (k := shI) es' ∧ fOf es' = (Jd.evJ (fOf es) (evOf y)).2 := hq2
    rw [← hq1] at hf
    by_cases he : e = 0
    · rw [if_neg (fun q => q he)] at hf
      obtain ⟨hk, hf2⟩ := hq2 he
      rw [← hf2] at hf
      refine offE (bne_eq_false_iff_eq.2 he) ⟨((i + 1 : Nat) : Int), wrap_i64 (by omega) (by omega), (i + 1, es'), ⟨⟨?_, rfl⟩, rfl, hS1⟩, ⟨hil, hk, hf⟩, by show l.length - (i + 1) < l.length - i; omega⟩
      repeat' first | exact trivial | exact rfl | refine And.intro ?_ ?_
    · rw [if_pos he] at hf
      exact onE (bne_iff_ne.2 he) ⟨rfl, e, rfl, hf.symm⟩
  · have hil : i = l.length := by
      have : ¬ ((i : Nat) : Int) < ((l.length : Nat) : Int) := of_decide_eq_false h
      omega
    subst hil
    rw [List.drop_length] at hf
    exact ⟨rfl, 0, rfl, hf.symm⟩
end Go.Proofs.YtpfghndflegbaaaDoor
