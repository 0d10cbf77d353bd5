/- law09: law All. -/
import Derived.Test.YtapblcfbmaikjaaGreatDoorHc
import Derived.Test.YtapblcfbmaikjaaGreatDoorGi
import Derived.Test.YtapblcfbmaikjaaGreatDoorGu
namespace Go.Proofs.YtapblcfbmaikjaaGreatDoor
open Go Go.Vc Go.Sort Go.RowKit Go.Maps
set_option maxRecDepth 100000
set_option maxHeartbeats 1000000

theorem law_all (S : Store) (hLt : Lt S) (x : Tz) (first : List Li.Wd) (T : List (List Li.Act)) (hx : TestIs S x first T) (q : Hd) (l : List Li.Pk) (hq : PksIs S q l) : Pure Tryz.prog 6 S [vT x, slV q] (A := Unit) (fun _ => rB true) (fun _ _ => True) := by
  have hsh := fun (S' : Store) (hS : S.le S') => short_spec S' x first T (hx.le hS)
  have hrk := fun (S' : Store) (hS : S.le S') => rcheck_spec S' x first T (hx.le hS)
  have hou := fun (S' : Store) (hS : S.le S') => outc_spec S' (hLt.le hS) x first T (hx.le hS)
  have hal := fun (S' : Store) (hS : S.le S') => oall_spec S' (hLt.le hS) x first T (hx.le hS)
  have hra := fun (S' : Store) (hS : S.le S') => rall_spec S' x first T (hx.le hS)
  have htl := hx.t.len
  have hfl := hx.f.len
  have hql := hq.len
  obtain ⟨⟨fp, fn, fc⟩, ⟨p, n, c⟩⟩ := x
  have hfl : fn = first.length := hfl
  have htl : n = T.length := htl
  obtain ⟨qp, qn, qc⟩ := q
  have hql : qn = l.length := hql
  subst hfl htl hql
  refine pure_vc agrees Tryz.func6 rfl rfl (fun S S' q hle h => h) ?_
  refine ⟨⟨_, rfl, rfl, rfl⟩, .inl ⟨_, _, _, awake_spec S hLt, fun S1 _ hS1 _ => onF ?_⟩⟩
  refine ⟨⟨_, rfl, rfl, rfl⟩, .inl ⟨_, _, _, hsh S1 hS1, fun S2 sb hS2 hsb => ?_⟩⟩
  have hS02 := Store.le_trans hS1 hS2
  cases sb with
  | false =>
    refine onT ?_
    repeat refine onT ?_
    exact ⟨rfl, (), rfl, trivial⟩
  | true =>
  obtain ⟨s1, s2, s3⟩ := hsb rfl
  refine onF ?_
  by_cases hl : ((l.length : Nat) : Int) > 60
  · refine onE (decide_eq_true hl) ?_
    repeat refine onT ?_
    exact ⟨rfl, (), rfl, trivial⟩
  refine offE (decide_eq_false hl) ?_
  have hl60 : l.length ≤ 60 := by omega
  refine ⟨⟨_, rfl, rfl, rfl⟩, .inl ⟨_, _, _, hal S2 hS02 s1 s2 s3, fun S3 a hS3 ha => ?_⟩⟩
  have hS03 := Store.le_trans hS02 hS3
  refine ⟨⟨_, rfl, rfl, rfl⟩, .inl ⟨_, _, _, hrk S3 hS03 s1 s2 s3, fun S4 _ hS4 _ => ?_⟩⟩
  have hS04 := Store.le_trans hS03 hS4
  have hal2 := ha.1
  obtain ⟨a1, a2, a3⟩ := a
  refine offE (bne_eq_false_iff_eq.2 rfl) ?_
  by_cases h0 : ¬ Li.checkT first T = 0
  · refine onE (bne_iff_ne.2 h0) ⟨rfl, (), ?_, trivial⟩
    have he : allS first T = [] := if_neg h0
    have hal2 : a2 = (allS first T).length := hal2
    rw [he] at hal2
    subst hal2
    rfl
  have h0 : Li.checkT first T = 0 := Decidable.not_not.1 h0
  have hg := Li.check_good.1 h0
  have he : allS first T = Li.putAll [] (Li.allT first T) := if_pos h0
  rw [he] at ha
  refine offE (bne_eq_false_iff_eq.2 h0) ?_
  refine ⟨⟨_, rfl, rfl, rfl⟩, .inl ⟨_, _, _, hra S4 hS04 hg, fun S5 b hS5 hb => ?_⟩⟩
  have hS05 := Store.le_trans hS04 hS5
  obtain ⟨b1, b2, b3⟩ := b
  have hsame := same_spec S5 (a1, a2, a3) (b1, b2, b3) _ _ (ha.le (Store.le_trans hS4 hS5)) hb (by have := all_len hg; omega)
  rw [decide_eq_true rfl] at hsame
  refine ⟨⟨_, rfl, rfl, rfl⟩, .inl ⟨_, _, _, hsame, fun S6 _ hS6 _ => onF ?_⟩⟩
  have hS06 := Store.le_trans hS05 hS6
  refine ⟨[], [(8, shP, 58)], Nat, List.range' 42 19, fun i => [(9, rI i)], fun i => [.box [.v (.slice fp first.length fc), .v (.slice p T.length c)], .row shP 58 (stepsOf (l.take i))], fun _ => S6, fun i => i ≤ l.length, fun i => l.length - i, ?_⟩
  refine And.intro (Exists.intro 0 (And.intro (And.intro (And.intro ?_ rfl) (And.intro rfl (Store.le_refl _))) (Nat.zero_le _))) ?_
  · repeat' first | exact trivial | exact rfl | refine And.intro ?_ ?_
  intro i hi
  have hi : i ≤ l.length := hi
  refine And.intro (fun h1 => ?_) (fun h1 => ?_)
  · have h1 : (i : Int) < ((l.length : Nat) : Int) := of_decide_eq_true h1
    obtain ⟨p, hp⟩ : ∃ p, l[i]? = some p := ⟨_, List.getElem?_eq_getElem (by omega)⟩
    obtain ⟨b1, o1, e1, ok1, hr1⟩ := row_at (hq.row.le hS06) hp
    obtain ⟨pa, pb, pc⟩ := p
    refine ⟨Int.natCast_nonneg _, h1, b1, o1, e1, pa, trivial, rd_field hr1 (f := 0) rfl, ?_⟩
    by_cases h2 : pa = 0
    · refine onE (beq_iff_eq.2 h2) ?_
      refine ⟨Int.natCast_nonneg _, h1, b1, o1, e1, ((pa, pb, pc) : Li.Pk), ok1, hr1, ?_⟩
      have hsl := steps_len (l.take i)
      rw [List.length_take] at hsl
      refine ⟨[((pa, pb, pc) : Li.Pk)], ⟨rfl, rfl⟩, fun _ _ => ⟨trivial, trivial, trivial⟩, by show ((stepsOf (l.take i)).length + 1) * 24 ≤ 140737488355328; omega, ?_⟩
      refine ⟨((i + 1 : Nat) : Int), wrap_i64 (by omega) (by omega), i + 1, ⟨⟨?_, rfl⟩, ?_, Store.le_refl _⟩, by show i + 1 ≤ _; omega, by show l.length - (i + 1) < l.length - i; omega⟩
      · repeat' first | exact trivial | exact rfl | refine And.intro ?_ ?_
      · show _ = [Res.box _, Res.row shP 58 (stepsOf (l.take (i + 1)))]
        rw [steps_more hp, if_pos (by simpa using h2)]; rfl
    · refine offE (beq_eq_false_iff_ne.2 h2) ?_
      refine ⟨((i + 1 : Nat) : Int), wrap_i64 (by omega) (by omega), i + 1, ⟨⟨?_, rfl⟩, ?_, Store.le_refl _⟩, by show i + 1 ≤ _; omega, by show l.length - (i + 1) < l.length - i; omega⟩
      · repeat' first | exact trivial | exact rfl | refine And.intro ?_ ?_
      · show _ = [Res.box _, Res.row shP 58 (stepsOf (l.take (i + 1)))]
        rw [steps_more hp, if_neg (by simpa using h2), List.append_nil]; rfl
  · have h1 : ¬ (i : Int) < ((l.length : Nat) : Int) := of_decide_eq_false h1
    have hil : i = l.length := by omega
    subst hil
    have hm : Li.outcomeR first T (stepsOf l) ∈ Li.putAll [] (Li.allT first T) := by
      rw [Li.putAll_mem]
      exact .inr (Li.steps_all hg _ steps_zero)
    refine ⟨⟨_, rfl, rfl, rfl⟩, .inl fun p5 c5 S7 hS7 hr5 hpf5 => ⟨_, _, _, hou S7 (Store.le_trans hS06 hS7) s1 s2 s3 (p5, _, c5) (stepsOf (l.take l.length)) ⟨rfl, pform_le hpf5.1, hr5, ?_⟩ ?_, fun S8 _ hS8 _ => ?_⟩⟩
    · rw [List.take_length]
      exact fun p hp => hq.ok p (List.mem_filter.1 hp).1
    · rw [List.take_length]; have := steps_len l; omega
    · have ho : outS first T (stepsOf (l.take l.length)) = Li.outcomeR first T (stepsOf l) := by rw [List.take_length]; exact if_pos h0
      have hin := in_spec S8 (a1, a2, a3) _ (Li.outcomeR first T (stepsOf l)) (ha.le (Store.le_trans hS4 (Store.le_trans hS5 (Store.le_trans hS6 (Store.le_trans hS7 hS8))))) (by have := all_len hg; omega)
      rw [decide_eq_true hm] at hin
      rw [ho, h0]
      refine onT ⟨⟨_, rfl, rfl, rfl⟩, .inl ⟨_, _, _, hin, fun S9 _ hS9 _ => ⟨rfl, (), rfl, trivial⟩⟩⟩
end Go.Proofs.YtapblcfbmaikjaaGreatDoor
