/- law09: law Runs. -/
import Derived.Test.YtapblcfbmaikjaaGreatDoorGl
namespace Go.Proofs.YtapblcfbmaikjaaGreatDoor
open Go Go.Vc Go.Sort Go.RowKit Go.Maps
set_option maxRecDepth 100000
set_option maxHeartbeats 8000000

theorem empty_b : ((bs []).toList == (ByteArray.mk #[]).toList) = true := by
  show ((bs []).toList == (bs []).toList) = true
  rw [bsq]; rfl
theorem law_runs (S : Store) (hLt : Lt S) (x : Tz) (first : List Li.Wd) (T : List (List Li.Act)) (hx : TestIs S x first T) (q : Hd) (l : List Li.Pk) (hq : PksIs S q l) : Pure Tryz.prog 5 S [vT x, slV q] (A := Unit) (fun _ => rB true) (fun _ _ => True) := by
  have hsh := fun (S' : Store) (hS : S.le S') => short_spec S' x first T (hx.le hS)
  have hck := fun (S' : Store) (hS : S.le S') => ocheck_spec S' x first T (hx.le hS)
  have hrk := fun (S' : Store) (hS : S.le S') => rcheck_spec S' x first T (hx.le hS)
  have hou := fun (S' : Store) (hS : S.le S') => outc_spec S' (hLt.le hS) x first T (hx.le hS)
  have hrn := fun (S' : Store) (hS : S.le S') => run_spec S' x first T (hx.le hS)
  have htl := hx.t.len
  have hfl := hx.f.len
  have hql := hq.len
  obtain ⟨⟨fp, fn, fc⟩, ⟨p, n, c⟩⟩ := x
  have hfl : fn = first.length := hfl
  have htl : n = T.length := htl
  obtain ⟨qp, qn, qc⟩ := q
  have hql : qn = l.length := hql
  subst hfl htl hql
  refine pure_vc agrees Tryz.func5 rfl rfl (fun S S' q hle h => h) ?_
  refine ⟨⟨_, rfl, rfl, rfl⟩, .inl ⟨_, _, _, awake_spec S hLt, fun S1 _ hS1 _ => onF ?_⟩⟩
  refine ⟨⟨_, rfl, rfl, rfl⟩, .inl ⟨_, _, _, hsh S1 hS1, fun S2 sb hS2 hsb => ?_⟩⟩
  have hS02 := Store.le_trans hS1 hS2
  cases sb with
  | false =>
    refine onT ?_
    repeat refine onT ?_
    exact ⟨rfl, (), rfl, trivial⟩
  | true =>
  obtain ⟨s1, s2, s3⟩ := hsb rfl
  refine onF ?_
  by_cases hl : ((l.length : Nat) : Int) > 60
  · refine onE (decide_eq_true hl) ?_
    repeat refine onT ?_
    exact ⟨rfl, (), rfl, trivial⟩
  refine offE (decide_eq_false hl) ?_
  refine ⟨⟨_, rfl, rfl, rfl⟩, .inl ⟨_, _, _, hou S2 hS02 s1 s2 s3 (qp, l.length, qc) l (hq.le hS02) (by omega), fun S3 _ hS3 _ => ?_⟩⟩
  have hS03 := Store.le_trans hS02 hS3
  refine ⟨⟨_, rfl, rfl, rfl⟩, .inl ⟨_, _, _, hrk S3 hS03 s1 s2 s3, fun S4 _ hS4 _ => ?_⟩⟩
  have hS04 := Store.le_trans hS03 hS4
  refine ⟨⟨_, rfl, rfl, rfl⟩, .inl ⟨_, _, _, hck S4 hS04 s1 s2 s3, fun S5 _ hS5 _ => ?_⟩⟩
  have hS05 := Store.le_trans hS04 hS5
  refine offE (bne_eq_false_iff_eq.2 rfl) (offE (bne_eq_false_iff_eq.2 rfl) ?_)
  by_cases h0 : ¬ Li.checkT first T = 0
  · refine onE (bne_iff_ne.2 h0) ⟨rfl, (), ?_, trivial⟩
    have ho : outS first T l = [] := if_neg h0
    rw [ho]
    show rB true = rB ((bs []).toList == (ByteArray.mk #[]).toList)
    rw [empty_b]
  have h0 : Li.checkT first T = 0 := Decidable.not_not.1 h0
  have hg := Li.check_good.1 h0
  have ho : outS first T l = Li.outcomeR first T l := if_pos h0
  refine offE (bne_eq_false_iff_eq.2 h0) ?_
  rw [ho, Li.runs_eq hg l]
  refine ⟨⟨_, rfl, rfl, rfl⟩, .inl ⟨_, _, _, hrn S5 hS05 hg (qp, l.length, qc) l (hq.le hS05) (by omega), fun S6 _ hS6 _ => ⟨rfl, (), ?_, trivial⟩⟩⟩
  show rB true = rB (_ == _)
  rw [bsq, decide_eq_true rfl]
end Go.Proofs.YtapblcfbmaikjaaGreatDoor
