/- law09: outcome of a named test's steps; law Forbids. -/
import Derived.Test.YtapblcfbmaikjaaGreatDoorGf
namespace Go.Proofs.YtapblcfbmaikjaaGreatDoor
open Go Go.Vc Go.Sort Go.RowKit Go.Maps
set_option maxRecDepth 100000
set_option maxHeartbeats 8000000

def stepsOf (l : List Li.Pk) : List Li.Pk := l.filter fun p => p.1 == 0
theorem steps_zero {l : List Li.Pk} : ∀ p ∈ stepsOf l, p.1 = 0 := fun p hp => by
  have := (List.mem_filter.1 hp).2
  exact beq_iff_eq.1 this
theorem steps_len (l : List Li.Pk) : (stepsOf l).length ≤ l.length := List.length_filter_le ..
theorem steps_more {l : List Li.Pk} {i : Nat} {p : Li.Pk} (h : l[i]? = some p) : stepsOf (l.take (i + 1)) = stepsOf (l.take i) ++ (if p.1 == 0 then [p] else []) := by
  unfold stepsOf
  rw [List.take_add_one, List.filter_append, h]
  by_cases q : (p.1 == 0) = true
  · rw [if_pos q]; simp [q]
  · rw [if_neg q]; simp [q]
theorem onamed_spec (S : Store) (hLt : Lt S) (s : Li.Bs) (T : List (List Li.Act)) (h : findN s tableL = some T) (hg : Li.Good Li.two T) (q : Hd) (l : List Li.Pk) (hq : PksIs S q l) (hl : l.length ≤ 60) :
    Pure Tryz.prog 24 S [.string (bs s), slV q] (A := Unit) (fun _ => rS (bs (Li.outcomeR Li.two T (stepsOf l)))) (fun _ _ => True) := by
  have hc : Li.checkT Li.two T = 0 := Li.check_good.2 hg
  have hql := hq.len
  obtain ⟨qp, qn, qc⟩ := q
  have hql : qn = l.length := hql
  subst hql
  refine pure_vc agrees Tryz.func24 rfl rfl (fun S S' q hle h => h) ?_
  refine ⟨⟨_, rfl, rfl, rfl⟩, .inl ⟨_, _, _, named_hit S s T h, fun S1 x hS1 hx => ?_⟩⟩
  have hou := fun (S2 : Store) (hS2 : S1.le S2) => outc_spec S2 (hLt.le (Store.le_trans hS1 hS2)) x Li.two T (hx.le hS2) (by decide) (by have := hg.t4; omega) (fun y hy => by have := hg.six y hy; omega)
  obtain ⟨⟨x1, x2, x3⟩, ⟨x4, x5, x6⟩⟩ := x
  refine ⟨[], [(7, shP, 58)], Nat, List.range' 16 19, fun i => [(8, rI i)], fun i => [.box [.v (.slice x1 x2 x3), .v (.slice x4 x5 x6)], .row shP 58 (stepsOf (l.take i))], fun _ => S1, fun i => i ≤ l.length, fun i => l.length - i, ?_⟩
  refine And.intro (Exists.intro 0 (And.intro (And.intro (And.intro ?_ rfl) (And.intro rfl (Store.le_refl _))) (Nat.zero_le _))) ?_
  · repeat' first | exact trivial | exact rfl | refine And.intro ?_ ?_
  intro i hi
  have hi : i ≤ l.length := hi
  refine And.intro (fun h1 => ?_) (fun h1 => ?_)
  · have h1 : (i : Int) < ((l.length : Nat) : Int) := of_decide_eq_true h1
    obtain ⟨p, hp⟩ : ∃ p, l[i]? = some p := ⟨_, List.getElem?_eq_getElem (by omega)⟩
    obtain ⟨b1, o1, e1, ok1, hr1⟩ := row_at (hq.row.le hS1) hp
    obtain ⟨pa, pb, pc⟩ := p
    refine ⟨Int.natCast_nonneg _, h1, b1, o1, e1, pa, trivial, rd_field hr1 (f := 0) rfl, ?_⟩
    by_cases h2 : pa = 0
    · refine onE (beq_iff_eq.2 h2) ?_
      refine ⟨Int.natCast_nonneg _, h1, b1, o1, e1, ((pa, pb, pc) : Li.Pk), ok1, hr1, ?_⟩
      have hsl := steps_len (l.take i)
      rw [List.length_take] at hsl
      refine ⟨[((pa, pb, pc) : Li.Pk)], ⟨rfl, rfl⟩, fun _ _ => ⟨trivial, trivial, trivial⟩, by show ((stepsOf (l.take i)).length + 1) * 24 ≤ 140737488355328; omega, ?_⟩
      refine ⟨((i + 1 : Nat) : Int), wrap_i64 (by omega) (by omega), i + 1, ⟨⟨?_, rfl⟩, ?_, Store.le_refl _⟩, by show i + 1 ≤ _; omega, by show l.length - (i + 1) < l.length - i; omega⟩
      · repeat' first | exact trivial | exact rfl | refine And.intro ?_ ?_
      · show _ = [Res.box _, Res.row shP 58 (stepsOf (l.take (i + 1)))]
        rw [steps_more hp, if_pos (by simpa using h2)]; rfl
    · refine offE (beq_eq_false_iff_ne.2 h2) ?_
      refine ⟨((i + 1 : Nat) : Int), wrap_i64 (by omega) (by omega), i + 1, ⟨⟨?_, rfl⟩, ?_, Store.le_refl _⟩, by show i + 1 ≤ _; omega, by show l.length - (i + 1) < l.length - i; omega⟩
      · repeat' first | exact trivial | exact rfl | refine And.intro ?_ ?_
      · show _ = [Res.box _, Res.row shP 58 (stepsOf (l.take (i + 1)))]
        rw [steps_more hp, if_neg (by simpa using h2), List.append_nil]; rfl
  · have h1 : ¬ (i : Int) < ((l.length : Nat) : Int) := of_decide_eq_false h1
    have hil : i = l.length := by omega
    subst hil
    refine ⟨⟨_, rfl, rfl, rfl⟩, .inl fun p5 c5 S5 hS5 hr5 hpf5 => ⟨_, _, _, hou S5 hS5 (p5, _, c5) (stepsOf (l.take l.length)) ⟨rfl, pform_le hpf5.1, hr5, ?_⟩ ?_, fun S6 _ hS6 _ => ?_⟩⟩
    · rw [List.take_length]
      exact fun p hp => hq.ok p (List.mem_filter.1 hp).1
    · rw [List.take_length]; have := steps_len l; omega
    · rw [hc, List.take_length]
      refine onF (onF ⟨rfl, (), ?_, trivial⟩)
      show rS _ = rS _
      unfold outS
      rw [hc, if_pos rfl]
theorem never {T : List (List Li.Act)} (hg : Li.Good Li.two T) {c : Li.Bs} (h : (Li.allOf T).all (fun x => !(x == c)) = true) (l : List Li.Pk) : ((bs (Li.outcomeR Li.two T (stepsOf l))).toList == (bs c).toList) = false := by
  rw [bsq]
  refine decide_eq_false fun e => ?_
  have := List.all_eq_true.1 h _ (Li.steps_all hg (stepsOf l) steps_zero)
  rw [e] at this; simp at this
theorem isIn {T : List (List Li.Act)} (hg : Li.Good Li.two T) (l : List Li.Pk) : Li.outcomeR Li.two T (stepsOf l) ∈ Li.allOf T := Li.steps_all hg _ steps_zero
theorem coh_no (l : List Li.Pk) : ((bs (Li.outcomeR Li.two Li.tCoh (stepsOf l))).toList == (bs [45, 32, 124, 32, 50, 32, 49, 32, 58, 32, 50, 32, 48]).toList) = false ∧ ((bs (Li.outcomeR Li.two Li.tCoh (stepsOf l))).toList == (bs [45, 32, 124, 32, 49, 32, 48, 32, 58, 32, 50, 32, 48]).toList) = false ∧ ((bs (Li.outcomeR Li.two Li.tCoh (stepsOf l))).toList == (bs [45, 32, 124, 32, 50, 32, 48, 32, 58, 32, 50, 32, 48]).toList) = false := by
  have := List.all_eq_true.1 Li.no_coh _ (isIn (good_two (T := Li.tCoh) rfl) l)
  rw [bsq, bsq, bsq]
  simp only [Bool.and_eq_true, Bool.not_eq_true', beq_eq_false_iff_ne] at this
  exact ⟨decide_eq_false this.1.1, decide_eq_false this.1.2, decide_eq_false this.2⟩
theorem in_true (S : Store) (p : Hd) (T : List (List Li.Act)) (s : Li.Bs) (hg : Li.Good Li.two T) (hp : SsIs S p (Li.putAll [] (Li.allT Li.two T))) (h : (Li.allOf T).any (fun x => x == s) = true) : Pure Tryz.prog 14 S [slV p, .string (bs s)] (A := Unit) (fun _ => rB true) (fun _ _ => True) := by
  have := in_spec S p _ s hp (by have := all_len hg; omega)
  have hm : s ∈ Li.putAll [] (Li.allT Li.two T) := by
    rw [Li.putAll_mem]
    obtain ⟨y, hy, he⟩ := List.any_eq_true.1 h
    rw [beq_iff_eq.1 he] at hy; exact .inr hy
  rw [decide_eq_true hm] at this
  exact this
theorem law_forbids (S : Store) (hLt : Lt S) (q : Hd) (l : List Li.Pk) (hq : PksIs S q l) : Pure Tryz.prog 7 S [slV q] (A := Unit) (fun _ => rB true) (fun _ _ => True) := by
  have hql := hq.len
  obtain ⟨qp, qn, qc⟩ := q
  have hql : qn = l.length := hql
  subst hql
  refine pure_vc agrees Tryz.func7 rfl rfl (fun S S' q hle h => h) ?_
  refine ⟨⟨_, rfl, rfl, rfl⟩, .inl ⟨_, _, _, awake_spec S hLt, fun S1 _ h1 _ => onF ?_⟩⟩
  by_cases hl : ((l.length : Nat) : Int) > 60
  · exact onE (decide_eq_true hl) ⟨rfl, (), rfl, trivial⟩
  refine offE (decide_eq_false hl) ?_
  have hl : l.length ≤ 60 := by omega
  have on := fun (S' : Store) (hS : S.le S') (s : Li.Bs) (T : List (List Li.Act)) (h : findN s tableL = some T) (hg : Li.Good Li.two T) => onamed_spec S' (hLt.le hS) s T h hg _ l (hq.le hS) hl
  refine ⟨⟨_, rfl, rfl, rfl⟩, .inl ⟨_, _, _, on S1 h1 nm1 (Li.buffered 5) rfl (good_two rfl), fun S2 _ h2 _ => offE (never (good_two rfl) Li.no_looking l) ?_⟩⟩
  have h2 := Store.le_trans h1 h2
  refine ⟨⟨_, rfl, rfl, rfl⟩, .inl ⟨_, _, _, on S2 h2 nm3 (Li.message 4 2) rfl (good_two rfl), fun S3 _ h3 _ => offE (never (good_two rfl) Li.no_passed l) ?_⟩⟩
  have h3 := Store.le_trans h2 h3
  refine ⟨⟨_, rfl, rfl, rfl⟩, .inl ⟨_, _, _, on S3 h3 nm4 Li.tLoadBuf rfl (good_two rfl), fun S4 _ h4 _ => offE (never (good_two rfl) Li.no_load l) ?_⟩⟩
  have h4 := Store.le_trans h3 h4
  refine ⟨⟨_, rfl, rfl, rfl⟩, .inl ⟨_, _, _, on S4 h4 nm7 (Li.far 5) rfl (good_two rfl), fun S5 _ h5 _ => offE (never (good_two rfl) Li.no_far l) ?_⟩⟩
  have h5 := Store.le_trans h4 h5
  refine ⟨⟨_, rfl, rfl, rfl⟩, .inl ⟨_, _, _, on S5 h5 nm9 Li.tRel rfl (good_two rfl), fun S6 _ h6 _ => offE (never (good_two rfl) Li.no_rel l) ?_⟩⟩
  have h6 := Store.le_trans h5 h6
  refine ⟨⟨_, rfl, rfl, rfl⟩, .inl ⟨_, _, _, on S6 h6 nm5 Li.tCoh rfl (good_two rfl), fun S7 _ h7 _ => ?_⟩⟩
  have h7 := Store.le_trans h6 h7
  refine ⟨⟨_, rfl, rfl, rfl⟩, .inl ⟨_, _, _, on S7 h7 nm8 Li.tSwaps rfl (good_two rfl), fun S8 _ h8 _ => ?_⟩⟩
  have h8 := Store.le_trans h7 h8
  obtain ⟨c1, c2, c3⟩ := coh_no l
  refine offE c1 (offE c2 (offE c3 ?_))
  have hsw := List.all_eq_true.1 Li.all_swaps _ (isIn (good_two (T := Li.tSwaps) rfl) l)
  obtain ⟨sw, hsw0⟩ : ∃ s, s = Li.outcomeR Li.two Li.tSwaps (stepsOf l) := ⟨_, rfl⟩
  rw [← hsw0] at hsw ⊢
  have rest : ∀ Q : Prop, Q → Q := fun _ h => h
  by_cases e1 : sw = [48, 32, 124, 32, 49, 32, 58, 32, 49, 32, 48]
  case' pos => refine offE (by show (!((bs sw).toList == (bs [48, 32, 124, 32, 49, 32, 58, 32, 49, 32, 48]).toList)) = false; rw [bsq, decide_eq_true e1]; rfl) (onF ?_)
  case' neg =>
    have e2 : sw = [50, 32, 124, 32, 48, 32, 58, 32, 50, 32, 48] := by
      simp only [Bool.or_eq_true, beq_iff_eq] at hsw
      rcases hsw with h | h
      · exact absurd h e1
      · exact h
    refine onE (by show (!((bs sw).toList == (bs [48, 32, 124, 32, 49, 32, 58, 32, 49, 32, 48]).toList)) = true; rw [bsq, decide_eq_false e1]; rfl) (offE (by show (!((bs sw).toList == (bs [50, 32, 124, 32, 48, 32, 58, 32, 50, 32, 48]).toList)) = false; rw [bsq, decide_eq_true e2]; rfl) ?_)
  all_goals
    refine ⟨⟨_, rfl, rfl, rfl⟩, .inl ⟨_, _, _, named_hit S8 nm0 (Li.buffered 1) rfl, fun S9 x h9 hx => ?_⟩⟩
    obtain ⟨⟨x1, x2, x3⟩, ⟨x4, x5, x6⟩⟩ := x
    refine ⟨⟨_, rfl, rfl, rfl⟩, .inl ⟨_, _, _, named_hit S9 nm2 (Li.message 3 1) rfl, fun S10 y h10 hy => ?_⟩⟩
    obtain ⟨⟨y1, y2, y3⟩, ⟨y4, y5, y6⟩⟩ := y
    refine ⟨⟨_, rfl, rfl, rfl⟩, .inl ⟨_, _, _, named_hit S10 nm6 (Li.far 2) rfl, fun S11 z h11 hz => ?_⟩⟩
    obtain ⟨⟨z1, z2, z3⟩, ⟨z4, z5, z6⟩⟩ := z
    have h9 := Store.le_trans h8 h9
    have hx := (hx.le h10).le h11
    have hy := hy.le h11
    have h11 := Store.le_trans h9 (Store.le_trans h10 h11)
    refine ⟨⟨_, rfl, rfl, rfl⟩, .inl ⟨_, _, _, oall_good S11 (hLt.le h11) _ Li.two _ hx (good_two rfl), fun S12 a h12 ha => ?_⟩⟩
    obtain ⟨a1, a2, a3⟩ := a
    have hy := hy.le h12
    have hz := hz.le h12
    have h12 := Store.le_trans h11 h12
    refine ⟨⟨_, rfl, rfl, rfl⟩, .inl ⟨_, _, _, oall_good S12 (hLt.le h12) _ Li.two _ hy (good_two rfl), fun S13 b h13 hb => ?_⟩⟩
    obtain ⟨b1, b2, b3⟩ := b
    have ha := ha.le h13
    have hz := hz.le h13
    have h13 := Store.le_trans h12 h13
    refine ⟨⟨_, rfl, rfl, rfl⟩, .inl ⟨_, _, _, oall_good S13 (hLt.le h13) _ Li.two _ hz (good_two rfl), fun S14 c h14 hc => ?_⟩⟩
    obtain ⟨d1, d2, d3⟩ := c
    have ha := ha.le h14
    have hb := hb.le h14
    repeat refine onT ?_
    refine ⟨⟨_, rfl, rfl, rfl⟩, .inl ⟨_, _, _, in_true S14 _ (Li.buffered 1) [48, 32, 124, 32, 48, 32, 58, 32, 49, 32, 49] (good_two rfl) ha Li.has_buffering, fun S15 _ h15 _ => onT ?_⟩⟩
    have hb := hb.le h15
    have hc := hc.le h15
    refine ⟨⟨_, rfl, rfl, rfl⟩, .inl ⟨_, _, _, in_true S15 _ (Li.message 3 1) [45, 32, 124, 32, 49, 32, 48, 32, 58, 32, 49, 32, 49] (good_two rfl) hb Li.has_plain, fun S16 _ h16 _ => onT ?_⟩⟩
    have hc := hc.le h16
    refine ⟨⟨_, rfl, rfl, rfl⟩, .inl ⟨_, _, _, in_true S16 _ (Li.far 2) [45, 32, 124, 32, 45, 32, 124, 32, 49, 32, 48, 32, 124, 32, 49, 32, 48, 32, 58, 32, 49, 32, 49] (good_two rfl) hc Li.has_far, fun S17 _ h17 _ => ⟨rfl, (), rfl, trivial⟩⟩⟩
end Go.Proofs.YtapblcfbmaikjaaGreatDoor
