/- law58: the law Blames too. the reference's search; the law Checks. -/
import Derived.Test.YtpfghndflegbaaaDoorFw
import Derived.Test.YtpfghndflegbaaaDoorFu
import Derived.Test.YtpfghndflegbaaaDoorFs
namespace Go.Proofs.YtpfghndflegbaaaDoor
open Go Go.Vc Go.Sort
set_option maxRecDepth 100000
set_option maxHeartbeats 8000000

theorem refLeast_spec (D : Hd → List Int) (p : Hd) (l : List shE.T) : ∀ (n : Nat) (S : Store) (_ : Lx S D p l) (_ : l.length ≤ 1000) (po : Hd) (o : List Nat) (_ : (nums o).length = po.2.1) (_ : po.2.1 ≤ po.2.2) (_ : RowRd S po.1 shI (nums o)) (_ : o.length + n ≤ 5000) (_ : free (csJ l) o ≤ n) (st : Int) (_ : inI64 st),
    Pure Tryd.prog 27 S [slV po, .int .i64 st, slV p] (A := Hd × Bool) (fun x => .tup [(false, [.v (slV x.1)]), (false, [.v (.bool x.2)])]) (OPost (Jd.leastS (stepE D) (csJ l) n o st) (o.length + n)) := by
  intro n
  induction n with
  | zero =>
    intro S hL hfew po o hlo hco hro hb hfr st hst
    have hw := free_zero (Nat.le_zero.1 hfr)
    have hl0 : Jd.leastS (stepE D) (csJ l) 0 o st = some o := by rw [Jd.leastS, if_pos hw]
    rw [hl0]
    have hol : (nums o).length = o.length := List.length_map ..
    refine pure_vc agrees Tryd.func27 rfl rfl (fun S S' q hle h => h.le hle) ?_
    refine ⟨⟨_, rfl, rfl, rfl⟩, .inl ⟨_, _, _, refWhole_spec S po (nums o) hlo hro (by omega) p l hL.len hL.row (by omega), fun S1 b hS1 hb => ?_⟩⟩
    have hb : b = wholeE (nums o) l := hb
    rw [whole_ref, hw] at hb
    subst hb
    refine onT ⟨rfl, (po, true), rfl, rfl, by show po.2.1 = _; omega, hco, hro.le hS1, by omega⟩
  | succ n ih =>
    intro S hL hfew po o hlo hco hro hb hfr st hst
    have hll := hL.len
    have hcsl := csJ_len l
    have hol : (nums o).length = o.length := List.length_map ..
    rw [least_cand]
    refine pure_vc agrees Tryd.func27 rfl rfl (fun S S' q hle h => h.le hle) ?_
    refine ⟨⟨_, rfl, rfl, rfl⟩, .inl ⟨_, _, _, refWhole_spec S po (nums o) hlo hro (by omega) p l hL.len hL.row (by omega), fun S1 b hS1 hb1 => ?_⟩⟩
    have hb1 : b = wholeE (nums o) l := hb1
    rw [whole_ref] at hb1
    subst hb1
    cases hw : Jd.wholeR (csJ l) o with
    | true =>
      refine onT ⟨rfl, (po, true), rfl, ?_⟩
      show OPost (some o) (o.length + (n + 1)) S1 (po, true)
      exact ⟨rfl, by show po.2.1 = _; omega, hco, hro.le hS1, by omega⟩
    | false =>
    refine onF ⟨⟨_, rfl, rfl, rfl⟩, .inl ⟨_, _, _, calls_spec S1 p l hL.len (hL.row.le hS1) (by omega), fun S2 q hS2 hq => ?_⟩⟩
    obtain ⟨pc, nc, cc⟩ := q
    obtain ⟨hc1, hc2⟩ := hq
    have hc1 : nc = (callsR l).length := hc1
    subst hc1
    have hcr : (callsR l).length = (csJ l).length := by rw [callsR_cs, List.length_map]
    have hL2 := (hL.le hS1).le hS2
    have hro2 := (hro.le hS1).le hS2
    refine ⟨[], [], Nat, [10, 11, 12, 13, 14, 15, 16] ++ List.range' 23 55, fun i => [(9, rI i)], fun _ => [], fun _ => S2, fun i => i ≤ (csJ l).length ∧ ∀ j < i, candR D (csJ l) n o st j = none, fun i => (csJ l).length - i, ?_⟩
    refine And.intro (Exists.intro 0 (And.intro (And.intro (And.intro ?_ rfl) (And.intro rfl (Store.le_refl _))) ⟨Nat.zero_le _, fun j h => absurd h (Nat.not_lt_zero _)⟩)) ?_
    · repeat' first | exact trivial | exact rfl | refine And.intro ?_ ?_
    rintro i ⟨hi, hnone⟩
    have i0 : (0 : Int) ≤ ((i : Nat) : Int) := Int.natCast_nonneg _
    refine And.intro (fun h => ?_) (fun h => ?_)
    · have hil : i < (csJ l).length := by
        have : ((i : Nat) : Int) < (((callsR l).length : Nat) : Int) := of_decide_eq_true h
        omega
      obtain ⟨x, hx⟩ : ∃ x, (csJ l)[i]? = some x := ⟨_, List.getElem?_eq_getElem hil⟩
      have hxm := List.mem_of_getElem? hx
      obtain ⟨-, ⟨e, he1, he2, he3, he4⟩, hea⟩ := cs_see hxm
      rw [Nat.sub_zero] at he1 he3
      have hpl := (List.getElem?_eq_some_iff.1 he1).1
      have hy : (callsR l)[i]? = some ((x.place : Nat) : Int) := by rw [callsR_cs, List.getElem?_map, hx]; rfl
      obtain ⟨b, o1, hp, hok, hrd⟩ := row_at hc2 hy
      have w1 : IntKind.i64.wrap (((i : Nat) : Int) + 1) = ((i + 1 : Nat) : Int) := wrap_i64 (by omega) (by omega)
      have hmu : (csJ l).length - (i + 1) < (csJ l).length - i := by omega
      have none1 : candR D (csJ l) n o st i = none → ∀ j < i + 1, candR D (csJ l) n o st j = none := by
        intro hc j hj
        by_cases e : j = i
        · rw [e]; exact hc
        · exact hnone j (by omega)
      have hcx : candR D (csJ l) n o st i = if Jd.mayR o x = true ∧ Jd.fitS x (stepE D st x.call).2 = true then Jd.leastS (stepE D) (csJ l) n (o ++ [x.place]) (stepE D st x.call).1 else none := by unfold candR; rw [hx]
      refine ⟨i0, by show ((i : Nat) : Int) < ((callsR l).length : Int); omega, b, o1, hp, ((x.place : Nat) : Int), hok, hrd, ⟨_, rfl, rfl, rfl⟩, .inl ⟨_, _, _, refMay_spec S2 po (nums o) hlo hro2 (by omega) p l x.place e hL.len hL2.row (by omega) he1, fun S3 m hS3 hm => ?_⟩⟩
      have hm : m = mayE (nums o) x.place (endE e.2.1 (x.place + 1) (l.drop (x.place + 1))).1 := hm
      rw [he3] at hm
      rw [may_ref] at hm
      subst hm
      cases hmay : Jd.mayR o x with
      | false =>
        refine onT ⟨((i + 1 : Nat) : Int), w1, i + 1, ⟨⟨?_, rfl⟩, rfl, hS3⟩, ⟨hil, none1 (by rw [hcx, if_neg (fun q => by rw [hmay] at q; cases q.1)])⟩, hmu⟩
        repeat' first | exact trivial | exact rfl | refine And.intro ?_ ?_
      | true =>
      have hL3 := hL2.le hS3
      obtain ⟨be, oe, hpe, hoke, hrde⟩ := row_at hL3.row he1
      obtain ⟨hx1, hx2, hx3⟩ := hL3.args e (List.mem_of_getElem? he1)
      have hpx : (0 : Int) ≤ ((x.place : Nat) : Int) := Int.natCast_nonneg _
      refine onF ⟨hpx, by show ((x.place : Nat) : Int) < ((p.2.1 : Nat) : Int); omega, be, oe, hpe, e.2.2.2.1, ⟨trivial, trivial⟩, rd_part hrde 3 2, ⟨_, rfl, rfl, rfl⟩, .inl ⟨_, _, _, do_spec S3 st e.2.2.2.1.1 e.2.2.2.1.2 (D e.2.2.2.1.2) hx1 hx2, fun S4 _ hS4 _ => ?_⟩⟩
      have hL4 := hL3.le hS4
      refine ⟨⟨_, rfl, rfl, rfl⟩, .inl ⟨_, _, _, end_spec S4 p l x.place e hL.len hL4.row (by omega) he1, fun S5 _ hS5 _ => ?_⟩⟩
      rw [he3]
      have hL5 := hL4.le hS5
      have hS25 : S2.le S5 := Store.le_trans hS3 (Store.le_trans hS4 hS5)
      have hstep : stepE D st x.call = doE st e.2.2.2.1.1 (D e.2.2.2.1.2) := by rw [← he2]; rfl
      have hfitx : ∀ y, x.ans = some y → Jd.fitS x (stepE D st x.call).2 = decide ((doE st e.2.2.2.1.1 (D e.2.2.2.1.2)).2 = y) := fun y hy => by unfold Jd.fitS; rw [hy, hstep]
      have h3 : x.ans = none ∨ (∃ y, x.ans = some y ∧ (doE st e.2.2.2.1.1 (D e.2.2.2.1.2)).2 = y) ∨ ∃ y, x.ans = some y ∧ (doE st e.2.2.2.1.1 (D e.2.2.2.1.2)).2 ≠ y := by
        cases x.ans with
        | none => exact .inl rfl
        | some y =>
          by_cases e : (doE st e.2.2.2.1.1 (D e.2.2.2.1.2)).2 = y
          · exact .inr (.inl ⟨y, rfl, e⟩)
          · exact .inr (.inr ⟨y, rfl, e⟩)
      refine ⟨or27_11, [], oF27_11, by kernel_rfl, ?_⟩
      rcases h3 with ha | ⟨y, ha, hy⟩ | ⟨y, ha, hy⟩
      case' inr.inr =>
        obtain ⟨-, ev, hev1, hev2⟩ := hea y ha
        rw [Nat.sub_zero] at hev1
        obtain ⟨bv, ov, hpv, hokv, hrdv⟩ := row_at hL5.row hev1
        have hvl := (List.getElem?_eq_some_iff.1 hev1).1
        refine onE (show x.ans.isSome = true by rw [ha]; rfl) ⟨Int.natCast_nonneg _, by show ((x.over : Nat) : Int) < ((p.2.1 : Nat) : Int); omega, bv, ov, hpv, ev.2.2.2.2, ⟨trivial, trivial⟩, rd_part hrdv 5 2, ?_⟩
        refine onE (by rw [neq_ad, hev2, decide_eq_false (fun q => hy q.symm)]; rfl) ⟨((i + 1 : Nat) : Int), w1, i + 1, ⟨⟨?_, rfl⟩, rfl, hS25⟩, ⟨hil, none1 (by rw [hcx, if_neg (fun q => by rw [hfitx y ha, decide_eq_false hy] at q; cases q.2)])⟩, hmu⟩
        repeat' first | exact trivial | exact rfl | refine And.intro ?_ ?_
      case' inl =>
        have hft : Jd.fitS x (stepE D st x.call).2 = true := by unfold Jd.fitS; rw [ha]
        refine offE (show x.ans.isSome = false by rw [ha]; rfl) (onF ?_)
      case' inr.inl =>
        have hft : Jd.fitS x (stepE D st x.call).2 = true := by rw [hfitx y ha]; exact decide_eq_true hy
        obtain ⟨-, ev, hev1, hev2⟩ := hea y ha
        rw [Nat.sub_zero] at hev1
        obtain ⟨bv, ov, hpv, hokv, hrdv⟩ := row_at hL5.row hev1
        have hvl := (List.getElem?_eq_some_iff.1 hev1).1
        refine onE (show x.ans.isSome = true by rw [ha]; rfl) ⟨Int.natCast_nonneg _, by show ((x.over : Nat) : Int) < ((p.2.1 : Nat) : Int); omega, bv, ov, hpv, ev.2.2.2.2, ⟨trivial, trivial⟩, rd_part hrdv 5 2, ?_⟩
        refine offE (by rw [neq_ad, hev2, decide_eq_true hy.symm]; rfl) ?_
      all_goals
        have hcf : candR D (csJ l) n o st i = Jd.leastS (stepE D) (csJ l) n (o ++ [x.place]) (stepE D st x.call).1 := by rw [hcx, if_pos ⟨hmay, hft⟩]
        have hoc : o.contains x.place = false := by
          have := hmay
          unfold Jd.mayR at this
          simp only [Bool.and_eq_true, Bool.not_eq_true'] at this
          exact this.1
        have hfl := free_less hxm hoc
        have hro5 := hro2.le hS25
        have hnum : nums (o ++ [x.place]) = ([] ++ nums o) ++ [((x.place : Nat) : Int)] := by simp [nums]
        have b1 : (0 + (nums o).length) * 8 ≤ 140737488355328 := by omega
        have b2 : (([] ++ nums o).length + 1) * 8 ≤ 140737488355328 := by rw [List.nil_append]; omega
        refine ⟨nums o, src_of hlo.symm hro5, fun _ _ => trivial, b1, ?_⟩
        refine ⟨[((x.place : Nat) : Int)], ⟨rfl, rfl⟩, fun _ _ => trivial, b2, ?_⟩
        refine ⟨⟨_, rfl, rfl, rfl⟩, .inl fun p6 c6 S6 hS6 hr6 hpf6 => ?_⟩
        have hL6 := hL5.le hS6
        have hcap6 := pform_cap hpf6.1
        have hlen6 : (nums (o ++ [x.place])).length = (([] ++ nums o) ++ [((x.place : Nat) : Int)]).length := by rw [hnum]
        have hr6' : RowRd S6 p6 shI (nums (o ++ [x.place])) := by rw [hnum]; exact hr6
        have hb6 : (o ++ [x.place]).length + n ≤ 5000 := by rw [List.length_append, List.length_singleton]; omega
        have hin6 : inI64 (doE st e.2.2.2.1.1 (D e.2.2.2.1.2)).1 := doE_in hst _ hx3
        have hfr6 : free (csJ l) (o ++ [x.place]) ≤ n := by omega
        refine ⟨_, _, _, ih S6 hL6 hfew (p6, _, c6) (o ++ [x.place]) hlen6 hcap6 hr6' hb6 hfr6 _ hin6, fun S7 f hS7 hf => ?_⟩
        · obtain ⟨fq, fok⟩ := f
          have hf : OPost (Jd.leastS (stepE D) (csJ l) n (o ++ [x.place]) (doE st e.2.2.2.1.1 (D e.2.2.2.1.2)).1) ((o ++ [x.place]).length + n) S7 (fq, fok) := hf
          rw [hstep] at hcf
          unfold OPost at hf
          have hS27 : S2.le S7 := Store.le_trans hS25 (Store.le_trans hS6 hS7)
          cases han : Jd.leastS (stepE D) (csJ l) n (o ++ [x.place]) (doE st e.2.2.2.1.1 (D e.2.2.2.1.2)).1 with
          | none =>
            rw [han] at hf hcf
            obtain ⟨rfl, hq⟩ := hf
            refine onF ⟨((i + 1 : Nat) : Int), w1, i + 1, ⟨⟨?_, rfl⟩, rfl, hS27⟩, ⟨hil, none1 hcf⟩, hmu⟩
            repeat' first | exact trivial | exact rfl | refine And.intro ?_ ?_
          | some is =>
            rw [han] at hf hcf
            obtain ⟨rfl, hq1, hq2, hq3, hq4⟩ := hf
            refine onT ⟨rfl, (fq, true), rfl, ?_⟩
            show OPost ((List.range (csJ l).length).findSome? (candR D (csJ l) n o st)) (o.length + (n + 1)) S7 (fq, true)
            rw [find_at hil hnone hcf]
            refine ⟨rfl, hq1, hq2, hq3, ?_⟩
            rw [List.length_append, List.length_singleton] at hq4
            omega
    · have hil : i = (csJ l).length := by
        have : ¬ ((i : Nat) : Int) < (((callsR l).length : Nat) : Int) := of_decide_eq_false h
        omega
      subst hil
      refine ⟨rfl, ((none, 0, 0), false), rfl, ?_⟩
      show OPost ((List.range (csJ l).length).findSome? (candR D (csJ l) n o st)) (o.length + (n + 1)) S2 ((none, 0, 0), false)
      rw [List.findSome?_eq_none_iff.2 fun j hj => hnone j (List.mem_range.1 hj)]
      exact ⟨rfl, rfl⟩
theorem forms_same' (l : List shE.T) : formE l = formRE l := Jd.form_same _ _ _ Jd.same0
theorem few_spec (S : Store) (p : Hd) (l : List shE.T) (hl : l.length = p.2.1) (hr : RowRd S p.1 shE l) (k : Nat) : Pure Tryd.prog 13 S [slV p, .int .i64 k] rB (fun _ b => b = (decide (l.length ≤ 40) && decide ((csJ l).length ≤ k))) := by
  obtain ⟨p, n, c⟩ := p
  simp only at hl hr
  subst hl
  have hcr : (callsR l).length = (csJ l).length := by rw [callsR_cs, List.length_map]
  refine pure_vc agrees Tryd.func13 rfl rfl (fun S S' q hle h => h) ?_
  by_cases c1 : l.length ≤ 40
  · refine onE (decide_eq_true (show ((l.length : Nat) : Int) ≤ 40 by omega)) ⟨⟨_, rfl, rfl, rfl⟩, .inl ⟨_, _, _, calls_spec S (p, l.length, c) l rfl hr (by omega), fun S1 q hS1 hq => ?_⟩⟩
    obtain ⟨pc, nc, cc⟩ := q
    obtain ⟨hc1, hc2⟩ := hq
    have hc1 : nc = (callsR l).length := hc1
    subst hc1
    refine ⟨rfl, _, rfl, ?_⟩
    show decide (((callsR l).length : Int) ≤ (k : Int)) = _
    rw [decide_eq_true c1, Bool.true_and, hcr]
    exact decide_eq_decide.2 (by omega)
  · refine offE (decide_eq_false (show ¬ ((l.length : Nat) : Int) ≤ 40 by omega)) ⟨rfl, false, rfl, ?_⟩
    rw [decide_eq_false c1]; rfl
theorem free_all (cs : Cs) : free cs [] ≤ cs.length := List.length_filter_le ..
theorem unpl_all (n : Nat) : Jd.unpl (List.replicate n false) ≤ n := by
  have : Jd.unpl (List.replicate n false) ≤ (List.replicate n false).length := List.count_le_length
  rwa [List.length_replicate] at this
theorem refCheck_spec (S : Store) (D : Hd → List Int) (p : Hd) (l : List shE.T) (hL : Lx S D p l) (hfew : l.length ≤ 1000) : Pure Tryd.prog 14 S [slV p] (A := Hd × Bool) (fun x => .tup [(false, [.v (slV x.1)]), (false, [.v (.bool x.2)])]) (OPost (leastJ D l) (csJ l).length) := by
  have hcsl := csJ_len l
  refine pure_vc agrees Tryd.func14 rfl rfl (fun S S' q hle h => h.le hle) ?_
  refine ⟨⟨_, rfl, rfl, rfl⟩, .inl ⟨_, _, _, refLeast_spec D p l (csJ l).length S hL hfew (none, 0, 0) [] rfl (Nat.le_refl _) ⟨.inl rfl, fun _ h => by cases h⟩ (by show 0 + _ ≤ _; omega) (free_all _) 0 inI_zero, fun S1 x hS1 hx => ?_⟩⟩
  have hx : OPost (Jd.leastS (stepE D) (csJ l) (csJ l).length [] 0) (([] : List Nat).length + (csJ l).length) S1 x := hx
  rw [least_same D l _ (unpl_all _)] at hx
  have e : ([] : List Nat).length + (csJ l).length = (csJ l).length := Nat.zero_add _
  rw [e] at hx
  exact ⟨rfl, x, rfl, hx⟩
theorem law_checks (S : Store) (D : Hd → List Int) (p : Hd) (l : List shE.T) (hL0 : Lx S D p l) : Pure Tryd.prog 3 S [slV p] rB (fun _ b => b = true) := by
  have hl := hL0.len
  have hcr : (callsR l).length = (csJ l).length := by rw [callsR_cs, List.length_map]
  have hcj : (callsJ l).length = (csJ l).length := by rw [callsJ_eq, List.length_map]
  refine pure_vc agrees Tryd.func3 rfl rfl (fun S S' q hle h => h) ?_
  refine ⟨⟨_, rfl, rfl, rfl⟩, .inl ⟨_, _, _, awake_spec S hL0.tab, fun S1 _ hS1 _ => ?_⟩⟩
  refine onF ?_
  by_cases c1 : l.length ≤ 40
  rotate_left
  · exact onE (decide_eq_true (show ((p.2.1 : Nat) : Int) > 40 by omega)) ⟨rfl, true, rfl, rfl⟩
  have hL := hL0.le hS1
  refine offE (decide_eq_false (show ¬ ((p.2.1 : Nat) : Int) > 40 by omega)) ⟨⟨_, rfl, rfl, rfl⟩, .inl ⟨_, _, _, check_spec S1 D p l hL, fun S2 x hS2 hx => ?_⟩⟩
  obtain ⟨⟨xq, xb⟩, xe⟩ := x
  obtain ⟨⟨hx1, hx2⟩, -⟩ := hx
  have hx1 : xe = wrongJ l := hx1
  subst hx1
  refine ⟨⟨_, rfl, rfl, rfl⟩, .inl ⟨_, _, _, formR_spec S2 p l hL.len (hL.row.le hS2) (by omega), fun S3 e hS3 he => ?_⟩⟩
  have he : e = formRE l := he
  rw [← forms_same'] at he
  subst he
  have hL3 := (hL.le hS2).le hS3
  by_cases hf : formE l = 0
  · refine onE (beq_iff_eq.2 hf) ⟨⟨_, rfl, rfl, rfl⟩, .inl ⟨_, _, _, calls_spec S3 p l hL.len hL3.row (by omega), fun S4 q hS4 hq => ?_⟩⟩
    obtain ⟨pc, nc, cc⟩ := q
    obtain ⟨hc1, hc2⟩ := hq
    have hc1 : nc = (callsR l).length := hc1
    subst hc1
    by_cases h8 : 8 < (callsJ l).length
    · have hw : wrongJ l = 15 := by rw [wrongJ, if_neg (fun q => q hf), if_pos h8]
      rw [hw, if_neg (by decide)] at hx2
      have hx3 : xq = (none, 0, 0) := congrArg Prod.fst hx2
      have hx4 : xb = false := congrArg Prod.snd hx2
      subst hx3 hx4
      refine onE (decide_eq_true (show (((callsR l).length : Nat) : Int) > 8 by omega)) (offE (by rw [hw]; rfl) (onT (onT ⟨rfl, true, rfl, rfl⟩)))
    · have hw : wrongJ l = 0 := by rw [wrongJ, if_neg (fun q => q hf), if_neg h8]
      rw [hw, if_pos rfl] at hx2
      refine offE (decide_eq_false (show ¬ (((callsR l).length : Nat) : Int) > 8 by omega)) (offE (by rw [hw, hf]; rfl) (offE (bne_eq_false_iff_eq.2 hf) ⟨⟨_, rfl, rfl, rfl⟩, .inl ⟨_, _, _, few_spec S4 p l hL.len (hL3.row.le hS4) 6, fun S5 b hS5 hb => ?_⟩⟩))
      cases b with
      | false => exact onT ⟨rfl, true, rfl, rfl⟩
      | true =>
      refine onF ⟨⟨_, rfl, rfl, rfl⟩, .inl ⟨_, _, _, refCheck_spec S5 D p l ((hL3.le hS4).le hS5) (by omega), fun S6 y hS6 hy => ?_⟩⟩
      obtain ⟨yq, yb⟩ := y
      have hS26 : S2.le S6 := Store.le_trans hS3 (Store.le_trans hS4 (Store.le_trans hS5 hS6))
      have hx2 : OPost (leastJ D l) l.length S2 (xq, xb) := hx2
      have hy : OPost (leastJ D l) (csJ l).length S6 (yq, yb) := hy
      have hcsl := csJ_len l
      unfold OPost at hx2 hy
      cases ha : leastJ D l with
      | none =>
        rw [ha] at hx2 hy
        obtain ⟨rfl, hx4⟩ := hx2
        obtain ⟨rfl, hy4⟩ := hy
        have hx4 : xq = (none, 0, 0) := hx4
        have hy4 : yq = (none, 0, 0) := hy4
        subst hx4 hy4
        refine onT ⟨⟨_, rfl, rfl, rfl⟩, .inl ⟨_, _, _, same_spec S6 (none, 0, 0) (none, 0, 0) [] [] rfl rfl ⟨.inl rfl, fun _ h => by cases h⟩ ⟨.inl rfl, fun _ h => by cases h⟩ (by decide) (by decide), fun S7 b hS7 hb => ?_⟩⟩
        have hb : b = true := hb
        exact ⟨rfl, b, rfl, hb⟩
      | some is =>
        rw [ha] at hx2 hy
        obtain ⟨rfl, hx4, hx5, hx6, hx7⟩ := hx2
        obtain ⟨rfl, hy4, hy5, hy6, hy7⟩ := hy
        have hnl : (nums is).length = is.length := List.length_map ..
        refine onT ⟨⟨_, rfl, rfl, rfl⟩, .inl ⟨_, _, _, same_spec S6 xq yq (nums is) (nums is) (hnl.trans hx4.symm) (hnl.trans hy4.symm) (hx6.le hS26) hy6 (by omega) (by omega), fun S7 b hS7 hb => ?_⟩⟩
        have hb : b = decide (nums is = nums is) := hb
        rw [decide_eq_true rfl] at hb
        exact ⟨rfl, b, rfl, hb⟩
  · have hw : wrongJ l = formE l := by rw [wrongJ, if_pos hf]
    rw [hw, if_neg hf] at hx2
    have hx3 : xq = (none, 0, 0) := congrArg Prod.fst hx2
    have hx4 : xb = false := congrArg Prod.snd hx2
    subst hx3 hx4
    refine offE (beq_eq_false_iff_ne.2 hf) (onF (offE (by rw [hw]; exact bne_eq_false_iff_eq.2 rfl) (onE (bne_iff_ne.2 hf) (onT ⟨rfl, true, rfl, rfl⟩))))
set_option maxHeartbeats 8000000

theorem least_step (D : Hd → List Int) {l : List shE.T} {e : shE.T} (h : leastJ D l = none) : leastJ D (l ++ [e]) = none := by
  cases hn : leastJ D (l ++ [e]) with
  | none => rfl
  | some is =>
    exfalso
    unfold leastJ Jd.ansS at hn
    have hr := Jd.find_run (stepE D) _ _ _ _ _ hn
    unfold csJ at hr
    rw [List.map_append] at hr
    obtain ⟨is', hr'⟩ := Jd.run_prefix (stepE D) (l := l.map evOf) (e := evOf e) (N := l.length) (by rw [List.length_map]; exact Nat.le_refl _) hr
    exact Jd.run_find (stepE D) _ hr' h
theorem least_mono (D : Hd → List Int) {l : List shE.T} {i : Nat} (h : leastJ D (l.take i) = none) : ∀ j, i ≤ j → leastJ D (l.take j) = none := by
  intro j hj
  induction j with
  | zero =>
    have : i = 0 := by omega
    subst this; exact h
  | succ j ih =>
    by_cases e : i = j + 1
    · subst e; exact h
    · have hj := ih (by omega)
      rw [List.take_add_one]
      cases hy : l[j]? with
      | none => simpa using hj
      | some y => exact least_step D hj
theorem least_nil (D : Hd → List Int) : leastJ D [] = some [] := by
  unfold leastJ
  rw [Jd.ans_step]
  have : csJ [] = [] := rfl
  rw [this]
  rfl
/-- The prefixes that have an order. -/
theorem blame_says (D : Hd → List Int) (l : List shE.T) {i : Nat} (hi : i ≤ l.length) : (leastJ D (l.take i)).isSome = (decide (blameJ D l < 0) || decide ((i : Int) ≤ blameJ D l)) ∧ -1 ≤ blameJ D l ∧ (blameJ D l < 0 ∨ blameJ D l < (l.length : Int)) := by
  unfold blameJ
  cases hf : (List.range l.length).find? fun n => (leastJ D (l.take (n + 1))).isNone with
  | none =>
    refine ⟨?_, by decide, .inl (by decide)⟩
    rw [List.find?_eq_none] at hf
    have : (leastJ D (l.take i)).isSome = true := by
      cases i with
      | zero => rw [List.take_zero, least_nil]; rfl
      | succ k =>
        have := hf k (List.mem_range.2 hi)
        simp only [Option.isNone_iff_eq_none] at this
        exact Option.isSome_iff_ne_none.2 this
    rw [this]; rfl
  | some n =>
    rw [List.find?_range_eq_some] at hf
    obtain ⟨h1, h2, h3⟩ := hf
    have h2 := List.mem_range.1 h2
    refine ⟨?_, by show -1 ≤ (n : Int); omega, .inr (by show (n : Int) < _; omega)⟩
    have e1 : decide ((n : Int) < 0) = false := decide_eq_false (by omega)
    show _ = (decide ((n : Int) < 0) || decide ((i : Int) ≤ (n : Int)))
    rw [e1, Bool.false_or]
    by_cases hin : i ≤ n
    · rw [decide_eq_true (by omega)]
      cases i with
      | zero => rw [List.take_zero, least_nil]; rfl
      | succ k =>
        have := h3 k (by omega)
        simp only [Bool.not_eq_true', Option.isNone_eq_false_iff] at this
        exact this
    · rw [decide_eq_false (by omega), least_mono D (Option.isNone_iff_eq_none.1 h1) i (by omega)]
      rfl
theorem wrong_take {l : List shE.T} (hf : formE l = 0) (h8 : (csJ l).length ≤ 8) (i : Nat) : wrongJ (l.take i) = 0 := by
  have h := csJ_take l i
  unfold wrongJ
  rw [form_take hf i, if_neg (by decide), if_neg (by rw [callsJ_eq, List.length_map]; omega)]
theorem law_blames (S : Store) (D : Hd → List Int) (p : Hd) (l : List shE.T) (hL0 : Lx S D p l) : Pure Tryd.prog 4 S [slV p] rB (fun _ b => b = true) := by
  have hl := hL0.len
  have hcap := hL0.cap
  have hfew := hL0.few
  have hcj : (callsJ l).length = (csJ l).length := by rw [callsJ_eq, List.length_map]
  refine pure_vc agrees Tryd.func4 rfl rfl (fun S S' q hle h => h) ?_
  refine ⟨⟨_, rfl, rfl, rfl⟩, .inl ⟨_, _, _, awake_spec S hL0.tab, fun S1 _ hS1 _ => ?_⟩⟩
  have hL := hL0.le hS1
  refine onF ⟨⟨_, rfl, rfl, rfl⟩, .inl ⟨_, _, _, few_spec S1 p l hL.len hL.row 8, fun S2 b hS2 hb => ?_⟩⟩
  have hb : b = (decide (l.length ≤ 40) && decide ((csJ l).length ≤ 8)) := hb
  have hL2 := hL.le hS2
  cases b with
  | false =>
    refine onT (onT ⟨⟨_, rfl, rfl, rfl⟩, .inl ⟨_, _, _, blame_spec S2 D p l hL2, fun S3 x hS3 hx => ?_⟩⟩)
    obtain ⟨x1, x2⟩ := x
    by_cases c1 : l.length ≤ 40
    · have c8 : ¬ (csJ l).length ≤ 8 := fun q => by rw [decide_eq_true c1, decide_eq_true q] at hb; cases hb
      have hw : wrongJ l ≠ 0 := by
        unfold wrongJ
        by_cases hf : formE l = 0
        · rw [if_neg (fun q => q hf), if_pos (by omega)]; decide
        · rw [if_pos hf]; exact hf
      rw [if_neg hw] at hx
      have hx1 : x1 = -1 := congrArg Prod.fst hx
      have hx2 : x2 = wrongJ l := congrArg Prod.snd hx
      subst hx1 hx2
      exact offE (decide_eq_false (show ¬ ((p.2.1 : Nat) : Int) > 40 by omega)) (onT ⟨rfl, _, rfl, bne_iff_ne.2 hw⟩)
    · exact onE (decide_eq_true (show ((p.2.1 : Nat) : Int) > 40 by omega)) ⟨rfl, true, rfl, rfl⟩
  | true =>
  have hbb := hb.symm
  rw [Bool.and_eq_true] at hbb
  have c1 : l.length ≤ 40 := of_decide_eq_true hbb.1
  have c8 : (csJ l).length ≤ 8 := of_decide_eq_true hbb.2
  refine onF ⟨⟨_, rfl, rfl, rfl⟩, .inl ⟨_, _, _, formR_spec S2 p l hL.len hL2.row (by omega), fun S3 e hS3 he => ?_⟩⟩
  have he : e = formRE l := he
  rw [← forms_same'] at he
  subst he
  have hL3 := hL2.le hS3
  by_cases hf : formE l = 0
  rotate_left
  · have hw : wrongJ l = formE l := by rw [wrongJ, if_pos hf]
    refine onE (bne_iff_ne.2 hf) ⟨⟨_, rfl, rfl, rfl⟩, .inl ⟨_, _, _, blame_spec S3 D p l hL3, fun S4 x hS4 hx => ?_⟩⟩
    obtain ⟨x1, x2⟩ := x
    rw [hw, if_neg hf] at hx
    have hx1 : x1 = -1 := congrArg Prod.fst hx
    have hx2 : x2 = formE l := congrArg Prod.snd hx
    subst hx1 hx2
    exact offE (decide_eq_false (show ¬ ((p.2.1 : Nat) : Int) > 40 by omega)) (onT ⟨rfl, _, rfl, bne_iff_ne.2 hf⟩)
  have hw : wrongJ l = 0 := by
    rw [wrongJ, if_neg (fun q => q hf), if_neg (by omega)]
  refine offE (bne_eq_false_iff_eq.2 hf) ⟨⟨_, rfl, rfl, rfl⟩, .inl ⟨_, _, _, blame_spec S3 D p l hL3, fun S4 x hS4 hx => ?_⟩⟩
  obtain ⟨x1, x2⟩ := x
  rw [if_pos hw] at hx
  have hx1 : x1 = blameJ D l := congrArg Prod.fst hx
  have hx2 : x2 = 0 := congrArg Prod.snd hx
  subst hx1 hx2
  obtain ⟨-, hb1, hb2⟩ := blame_says D l (Nat.zero_le l.length)
  refine onF (offE (decide_eq_false (show ¬ blameJ D l < -1 by omega)) (offE (decide_eq_false (show ¬ blameJ D l ≥ ((p.2.1 : Nat) : Int) by omega)) ?_))
  refine ⟨[], [], Nat, [8, 9, 10] ++ List.range' 58 29, fun i => [(7, rI i)], fun _ => [], fun _ => S4, fun i => i ≤ l.length + 1, fun i => l.length + 1 - i, ?_⟩
  refine And.intro (Exists.intro 0 (And.intro (And.intro (And.intro ?_ rfl) (And.intro rfl (Store.le_refl _))) (Nat.zero_le _))) ?_
  · repeat' first | exact trivial | exact rfl | refine And.intro ?_ ?_
  rintro i hi
  have hi : i ≤ l.length + 1 := hi
  have i0 : (0 : Int) ≤ ((i : Nat) : Int) := Int.natCast_nonneg _
  refine And.intro (fun h => ?_) (fun h => ⟨rfl, true, rfl, rfl⟩)
  have hil : i ≤ l.length := by
    have : ((i : Nat) : Int) ≤ ((p.2.1 : Nat) : Int) := of_decide_eq_true h
    omega
  have hL4 := hL3.le hS4
  refine ⟨i0, by show i ≤ p.2.2; omega, ⟨_, rfl, rfl, rfl⟩, .inl ⟨_, _, _, check_spec S4 D (p.1, i, p.2.2) (l.take i) (hL4.take hil), fun S5 x hS5 hx => ?_⟩⟩
  obtain ⟨⟨xq, xb⟩, xe⟩ := x
  obtain ⟨⟨hx1, hx2⟩, -⟩ := hx
  have hx1 : xe = wrongJ (l.take i) := hx1
  rw [wrong_take hf c8 i] at hx1 hx2
  subst hx1
  rw [if_pos rfl] at hx2
  have hxb : xb = (leastJ D (l.take i)).isSome := by
    have hx2 : OPost (leastJ D (l.take i)) (l.take i).length S5 (xq, xb) := hx2
    unfold OPost at hx2
    cases ha : leastJ D (l.take i) with
    | none => rw [ha] at hx2; exact hx2.1
    | some is => rw [ha] at hx2; exact hx2.1
  obtain ⟨hsay, -, -⟩ := blame_says D l hil
  rw [hsay] at hxb
  subst hxb
  refine onF ?_
  have w1 : IntKind.i64.wrap (((i : Nat) : Int) + 1) = ((i + 1 : Nat) : Int) := wrap_i64 (by omega) (by omega)
  have hmu : l.length + 1 - (i + 1) < l.length + 1 - i := by omega
  by_cases q1 : blameJ D l < 0
  · rw [decide_eq_true q1]
    refine onE (decide_eq_true q1) (onF ⟨((i + 1 : Nat) : Int), w1, i + 1, ⟨⟨?_, rfl⟩, rfl, hS5⟩, by show i + 1 ≤ l.length + 1; omega, hmu⟩)
    repeat' first | exact trivial | exact rfl | refine And.intro ?_ ?_
  · rw [decide_eq_false q1, Bool.false_or]
    refine offE (decide_eq_false q1) (offE (by cases decide (((i : Nat) : Int) ≤ blameJ D l) <;> rfl) ⟨((i + 1 : Nat) : Int), w1, i + 1, ⟨⟨?_, rfl⟩, rfl, hS5⟩, by show i + 1 ≤ l.length + 1; omega, hmu⟩)
    repeat' first | exact trivial | exact rfl | refine And.intro ?_ ?_
end Go.Proofs.YtpfghndflegbaaaDoor
