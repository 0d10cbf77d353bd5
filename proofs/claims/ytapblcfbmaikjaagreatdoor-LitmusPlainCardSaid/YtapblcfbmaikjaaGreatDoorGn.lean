/- law09: law Plain. -/
import Derived.Test.YtapblcfbmaikjaaGreatDoorGm
import Derived.Test.YtapblcfbmaikjaaGreatDoorGh
namespace Go.Proofs.YtapblcfbmaikjaaGreatDoor
open Go Go.Vc Go.Sort Go.RowKit Go.Maps
set_option maxRecDepth 100000
set_option maxHeartbeats 8000000

theorem law_plain (S : Store) (hLt : Lt S) (x : Tz) (first : List Li.Wd) (T : List (List Li.Act)) (hx : TestIs S x first T) (q : Hd) (l : List Li.Pk) (hq : PksIs S q l) : Pure Tryz.prog 8 S [vT x, slV q] (A := Unit) (fun _ => rB true) (fun _ _ => True) := by
  have hsh := fun (S' : Store) (hS : S.le S') => short_spec S' x first T (hx.le hS)
  have hck := fun (S' : Store) (hS : S.le S') => ocheck_spec S' x first T (hx.le hS)
  have hou := fun (S' : Store) (hS : S.le S') => outc_spec S' (hLt.le hS) x first T (hx.le hS)
  have hpl := fun (S' : Store) (hS : S.le S') => plain_spec S' x first T (hx.le hS)
  have htl := hx.t.len
  have hfl := hx.f.len
  have hth := hx.t
  have hql := hq.len
  obtain ⟨⟨fp, fn, fc⟩, ⟨p, n, c⟩⟩ := x
  have hfl : fn = first.length := hfl
  have htl : n = T.length := htl
  obtain ⟨qp, qn, qc⟩ := q
  have hql : qn = l.length := hql
  subst hfl htl hql
  refine pure_vc agrees Tryz.func8 rfl rfl (fun S S' q hle h => h) ?_
  refine ⟨⟨_, rfl, rfl, rfl⟩, .inl ⟨_, _, _, awake_spec S hLt, fun S1 _ hS1 _ => onF ?_⟩⟩
  refine ⟨⟨_, rfl, rfl, rfl⟩, .inl ⟨_, _, _, hsh S1 hS1, fun S2 sb hS2 hsb => ?_⟩⟩
  have hS02 := Store.le_trans hS1 hS2
  cases sb with
  | false =>
    refine onT ?_
    repeat refine onT ?_
    exact ⟨rfl, (), rfl, trivial⟩
  | true =>
  obtain ⟨s1, s2, s3⟩ := hsb rfl
  refine onF ?_
  by_cases hl : ((l.length : Nat) : Int) > 60
  · refine onE (decide_eq_true hl) ?_
    repeat refine onT ?_
    exact ⟨rfl, (), rfl, trivial⟩
  refine offE (decide_eq_false hl) ?_
  refine ⟨⟨_, rfl, rfl, rfl⟩, .inl ⟨_, _, _, hck S2 hS02 s1 s2 s3, fun S3 _ hS3 _ => ?_⟩⟩
  have hS03 := Store.le_trans hS02 hS3
  by_cases h0 : ¬ Li.checkT first T = 0
  · refine onE (bne_iff_ne.2 h0) ?_
    repeat refine onT ?_
    exact ⟨rfl, (), rfl, trivial⟩
  have h0 : Li.checkT first T = 0 := Decidable.not_not.1 h0
  refine offE (bne_eq_false_iff_eq.2 h0) ?_
  have hg := Li.check_good.1 h0
  refine ⟨[], [], Nat, [6, 7] ++ List.range' 26 32, fun i => [(5, rI i)], fun _ => [.box [.v (.slice fp first.length fc), .v (.slice p T.length c)]], fun _ => S3, fun i => i ≤ T.length ∧ ∀ y ∈ T.take i, ∀ a ∈ y, a.op ≠ 1 ∧ a.op ≠ 2, fun i => T.length - i, ?_⟩
  refine And.intro (Exists.intro 0 (And.intro (And.intro (And.intro ?_ rfl) (And.intro rfl (Store.le_refl _))) ⟨Nat.zero_le _, fun y hy => by simp at hy⟩)) ?_
  · repeat' first | exact trivial | exact rfl | refine And.intro ?_ ?_
  rintro i ⟨hi, hz⟩
  have hi : i ≤ T.length := hi
  refine And.intro (fun h1 => ?_) (fun h1 => ?_)
  · have h1 : (i : Int) < ((T.length : Nat) : Int) := of_decide_eq_true h1
    obtain ⟨⟨yp, yn, yc⟩, y, b, o, hy, hqy, hp, hok, hrd⟩ := (hth.le hS03).at (i := i) (by omega)
    obtain ⟨hyl, hyc, hyr, hyo⟩ := acts_row hqy
    have hyl : yn = y.length := hyl
    subst hyl
    have hyr : RowRd S3 yp shA (y.map axOf) := hyr
    have hy8 := s3 y (List.mem_of_getElem? hy)
    refine ⟨[], [], Nat, [7] ++ List.range' 33 25, fun j => [(6, rI j)], fun _ => [.box [.v (.slice fp first.length fc), .v (.slice p T.length c)]], fun _ => S3, fun j => j ≤ y.length ∧ ∀ a ∈ y.take j, a.op ≠ 1 ∧ a.op ≠ 2, fun j => y.length - j, ?_⟩
    refine And.intro (Exists.intro 0 (And.intro (And.intro (And.intro ?_ rfl) (And.intro rfl (Store.le_refl _))) ⟨Nat.zero_le _, fun a ha => by simp at ha⟩)) ?_
    · repeat' first | exact trivial | exact rfl | refine And.intro ?_ ?_
    rintro j ⟨hj, hzj⟩
    have hj : j ≤ y.length := hj
    refine ⟨Int.natCast_nonneg _, h1, b, o, hp, ((yp, y.length, yc) : Hd), hok, hrd, ?_⟩
    refine And.intro (fun h3 => ?_) (fun h3 => ?_)
    · have h3 : (j : Int) < ((y.length : Nat) : Int) := of_decide_eq_true h3
      obtain ⟨a, ha⟩ : ∃ a, y[j]? = some a := ⟨_, List.getElem?_eq_getElem (by omega)⟩
      obtain ⟨b3, o3, hp3, hok3, hrd3⟩ := row_at hyr (i := j) (x := axOf a) (by rw [List.getElem?_map, ha]; rfl)
      have hmore : (a.op ≠ 1 ∧ a.op ≠ 2) → ∀ x ∈ y.take (j + 1), x.op ≠ 1 ∧ x.op ≠ 2 := fun h0 => take_more ha hzj h0
      obtain ⟨ao, al, ⟨a1, a2, a3⟩, a4, a5, a6⟩ := a
      refine ⟨Int.natCast_nonneg _, h1, b, o, hp, ((yp, y.length, yc) : Hd), hok, hrd, Int.natCast_nonneg _, h3, b3, o3, hp3, ao, trivial, rd_field hrd3 (f := 0) rfl, ?_⟩
      by_cases k1 : ao = 1
      · refine onE (beq_iff_eq.2 k1) ?_
        repeat refine onT ?_
        exact ⟨rfl, (), rfl, trivial⟩
      refine offE (beq_eq_false_iff_ne.2 k1) ?_
      by_cases k2 : ao = 2
      · refine onE (beq_iff_eq.2 k2) ?_
        repeat refine onT ?_
        exact ⟨rfl, (), rfl, trivial⟩
      refine offE (beq_eq_false_iff_ne.2 k2) ?_
      refine ⟨((j + 1 : Nat) : Int), wrap_i64 (by omega) (by omega), j + 1, ⟨⟨?_, rfl⟩, rfl, Store.le_refl _⟩, ⟨by show j + 1 ≤ _; omega, hmore ⟨k1, k2⟩⟩, by show y.length - (j + 1) < y.length - j; omega⟩
      repeat' first | exact trivial | exact rfl | refine And.intro ?_ ?_
    · have h3 : ¬ (j : Int) < ((y.length : Nat) : Int) := of_decide_eq_false h3
      have hjy : j = y.length := by omega
      rw [hjy, List.take_length] at hzj
      refine ⟨((i + 1 : Nat) : Int), wrap_i64 (by omega) (by omega), i + 1, ⟨⟨?_, rfl⟩, rfl, Store.le_refl _⟩, ⟨by show i + 1 ≤ _; omega, take_more hy hz hzj⟩, by show T.length - (i + 1) < T.length - i; omega⟩
      repeat' first | exact trivial | exact rfl | refine And.intro ?_ ?_
  have h1 : ¬ (i : Int) < ((T.length : Nat) : Int) := of_decide_eq_false h1
  have hil : i = T.length := by omega
  rw [hil, List.take_length] at hz
  have hpT : Li.plainT T := hz
  refine ⟨[], [], Nat, List.range' 58 12, fun j => [(8, rI j)], fun _ => [.box [.v (.slice fp first.length fc), .v (.slice p T.length c)]], fun _ => S3, fun j => j ≤ l.length ∧ ∀ a ∈ l.take j, a.1 = 0, fun j => l.length - j, ?_⟩
  refine And.intro (Exists.intro 0 (And.intro (And.intro (And.intro ?_ rfl) (And.intro rfl (Store.le_refl _))) ⟨Nat.zero_le _, fun a ha => by simp at ha⟩)) ?_
  · repeat' first | exact trivial | exact rfl | refine And.intro ?_ ?_
  rintro j ⟨hj, hzj⟩
  have hj : j ≤ l.length := hj
  refine And.intro (fun h3 => ?_) (fun h3 => ?_)
  · have h3 : (j : Int) < ((l.length : Nat) : Int) := of_decide_eq_true h3
    obtain ⟨pk, hpk⟩ : ∃ a, l[j]? = some a := ⟨_, List.getElem?_eq_getElem (by omega)⟩
    obtain ⟨b3, o3, hp3, hok3, hrd3⟩ := row_at (hq.row.le hS03) hpk
    have hmore : pk.1 = 0 → ∀ x ∈ l.take (j + 1), x.1 = 0 := fun h0 => take_more hpk hzj h0
    obtain ⟨pa, pb, pc⟩ := pk
    refine ⟨Int.natCast_nonneg _, h3, b3, o3, hp3, pa, trivial, rd_field hrd3 (f := 0) rfl, ?_⟩
    by_cases k0 : pa = 0
    · refine offE (bne_eq_false_iff_eq.2 k0) ?_
      refine ⟨((j + 1 : Nat) : Int), wrap_i64 (by omega) (by omega), j + 1, ⟨⟨?_, rfl⟩, rfl, Store.le_refl _⟩, ⟨by show j + 1 ≤ _; omega, hmore k0⟩, by show l.length - (j + 1) < l.length - j; omega⟩
      repeat' first | exact trivial | exact rfl | refine And.intro ?_ ?_
    · exact onE (bne_iff_ne.2 k0) ⟨rfl, (), rfl, trivial⟩
  have h3 : ¬ (j : Int) < ((l.length : Nat) : Int) := of_decide_eq_false h3
  have hjl : j = l.length := by omega
  rw [hjl, List.take_length] at hzj
  refine ⟨⟨_, rfl, rfl, rfl⟩, .inl ⟨_, _, _, hou S3 hS03 s1 s2 s3 (qp, l.length, qc) l (hq.le hS03) (by omega), fun S4 _ hS4 _ => ?_⟩⟩
  have hS04 := Store.le_trans hS03 hS4
  have ho : outS first T l = Li.outcomeR first T l := if_pos h0
  rw [ho, h0, Li.plain_eq hg hpT l hzj]
  refine onT ⟨⟨_, rfl, rfl, rfl⟩, .inl ⟨_, _, _, hpl S4 hS04 hg (qp, l.length, qc) l (hq.le hS04) (by omega), fun S5 _ hS5 _ => ⟨rfl, (), ?_, trivial⟩⟩⟩
  show rB true = rB (_ == _)
  rw [bsq, decide_eq_true rfl]
end Go.Proofs.YtapblcfbmaikjaaGreatDoor
