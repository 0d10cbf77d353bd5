/- law58: the law Blames. -/
import Derived.Test.YtpfghndflegbaaaDoorFx
namespace Go.Proofs.YtpfghndflegbaaaDoor
open Go Go.Vc Go.Sort
set_option maxRecDepth 100000
set_option maxHeartbeats 8000000

theorem least_step (D : Hd → List Int) {l : List shE.T} {e : shE.T} (h : leastJ D l = none) : leastJ D (l ++ [e]) = none := by
  cases hn : leastJ D (l ++ [e]) with
  | none => rfl
  | some is =>
    exfalso
    unfold leastJ Jd.ansS at hn
    have hr := Jd.find_run (stepE D) _ _ _ _ _ hn
    unfold csJ at hr
    rw [List.map_append] at hr
    obtain ⟨is', hr'⟩ := Jd.run_prefix (stepE D) (l := l.map evOf) (e := evOf e) (N := l.length) (by rw [List.length_map]; exact Nat.le_refl _) hr
    exact Jd.run_find (stepE D) _ hr' h
theorem least_mono (D : Hd → List Int) {l : List shE.T} {i : Nat} (h : leastJ D (l.take i) = none) : ∀ j, i ≤ j → leastJ D (l.take j) = none := by
  intro j hj
  induction j with
  | zero =>
    have : i = 0 := by omega
    subst this; exact h
  | succ j ih =>
    by_cases e : i = j + 1
    · subst e; exact h
    · have hj := ih (by omega)
      rw [List.take_add_one]
      cases hy : l[j]? with
      | none => simpa using hj
      | some y => exact least_step D hj
theorem least_nil (D : Hd → List Int) : leastJ D [] = some [] := by
  unfold leastJ
  rw [Jd.ans_step]
  have : csJ [] = [] := rfl
  rw [this]
  rfl
/-- The prefixes that have an order. -/
theorem blame_says (D : Hd → List Int) (l : List shE.T) {i : Nat} (hi : i ≤ l.length) : (leastJ D (l.take i)).isSome = (decide (blameJ D l < 0) || decide ((i : Int) ≤ blameJ D l)) ∧ -1 ≤ blameJ D l ∧ (blameJ D l < 0 ∨ blameJ D l < (l.length : Int)) := by
  unfold blameJ
  cases hf : (List.range l.length).find? fun n => (leastJ D (l.take (n + 1))).isNone with
  | none =>
    refine ⟨?_, by decide, .inl (by decide)⟩
    rw [List.find?_eq_none] at hf
    have : (leastJ D (l.take i)).isSome = true := by
      cases i with
      | zero => rw [List.take_zero, least_nil]; rfl
      | succ k =>
        have := hf k (List.mem_range.2 hi)
        simp only [Option.isNone_iff_eq_none] at this
        exact Option.isSome_iff_ne_none.2 this
    rw [this]; rfl
  | some n =>
    rw [List.find?_range_eq_some] at hf
    obtain ⟨h1, h2, h3⟩ := hf
    have h2 := List.mem_range.1 h2
    refine ⟨?_, by show -1 ≤ (n : Int); omega, .inr (by show (n : Int) < _; omega)⟩
    have e1 : decide ((n : Int) < 0) = false := decide_eq_false (by omega)
    show _ = (decide ((n : Int) < 0) || decide ((i : Int) ≤ (n : Int)))
    rw [e1, Bool.false_or]
    by_cases hin : i ≤ n
    · rw [decide_eq_true (by omega)]
      cases i with
      | zero => rw [List.take_zero, least_nil]; rfl
      | succ k =>
        have := h3 k (by omega)
        simp only [Bool.not_eq_true', Option.isNone_eq_false_iff] at this
        exact this
    · rw [decide_eq_false (by omega), least_mono D (Option.isNone_iff_eq_none.1 h1) i (by omega)]
      rfl
theorem wrong_take {l : List shE.T} (hf : formE l = 0) (h8 : (csJ l).length ≤ 8) (i : Nat) : wrongJ (l.take i) = 0 := by
  have h := csJ_take l i
  unfold wrongJ
  rw [form_take hf i, if_neg (by decide), if_neg (by rw [callsJ_eq, List.length_map]; omega)]
theorem law_blames (S : Store) (D : Hd → List Int) (p : Hd) (l : List shE.T) (hL0 : Lx S D p l) : Pure Tryd.prog 4 S [slV p] rB (fun _ b => b = true) := by
  have hl := hL0.len
  have hcap := hL0.cap
  have hfew := hL0.few
  have hcj : (callsJ l).length = (csJ l).length := by rw [callsJ_eq, List.length_map]
  refine pure_vc agrees Tryd.func4 rfl rfl (fun S S' q hle h => h) ?_
  refine ⟨⟨_, rfl, rfl, rfl⟩, .inl ⟨_, _, _, awake_spec S hL0.tab, fun S1 _ hS1 _ => ?_⟩⟩
  have hL := hL0.le hS1
  refine onF ⟨⟨_, rfl, rfl, rfl⟩, .inl ⟨_, _, _, few_spec S1 p l hL.len hL.row 8, fun S2 b hS2 hb => ?_⟩⟩
  have hb : b = (decide (l.length ≤ 40) && decide ((csJ l).length ≤ 8)) := hb
  have hL2 := hL.le hS2
  cases b with
  | false =>
    refine onT (onT ⟨⟨_, rfl, rfl, rfl⟩, .inl ⟨_, _, _, blame_spec S2 D p l hL2, fun S3 x hS3 hx => ?_⟩⟩)
    obtain ⟨x1, x2⟩ := x
    by_cases c1 : l.length ≤ 40
    · have c8 : ¬ (csJ l).length ≤ 8 := fun q => by rw [decide_eq_true c1, decide_eq_true q] at hb; cases hb
      have hw : wrongJ l ≠ 0 := by
        unfold wrongJ
        by_cases hf : formE l = 0
        · rw [if_neg (fun q => q hf), if_pos (by omega)]; decide
        · rw [if_pos hf]; exact hf
      rw [if_neg hw] at hx
      have hx1 : x1 = -1 := congrArg Prod.fst hx
      have hx2 : x2 = wrongJ l := congrArg Prod.snd hx
      subst hx1 hx2
      exact offE (decide_eq_false (show ¬ ((p.2.1 : Nat) : Int) > 40 by omega)) (onT ⟨rfl, _, rfl, bne_iff_ne.2 hw⟩)
    · exact onE (decide_eq_true (show ((p.2.1 : Nat) : Int) > 40 by omega)) ⟨rfl, true, rfl, rfl⟩
  | true =>
  have hbb := hb.symm
  rw [Bool.and_eq_true] at hbb
  have c1 : l.length ≤ 40 := of_decide_eq_true hbb.1
  have c8 : (csJ l).length ≤ 8 := of_decide_eq_true hbb.2
  refine onF ⟨⟨_, rfl, rfl, rfl⟩, .inl ⟨_, _, _, formR_spec S2 p l hL.len hL2.row (by omega), fun S3 e hS3 he => ?_⟩⟩
  have he : e = formRE l := he
  rw [← forms_same'] at he
  subst he
  have hL3 := hL2.le hS3
  by_cases hf : formE l = 0
  rotate_left
  · have hw : wrongJ l = formE l := by rw [wrongJ, if_pos hf]
    refine onE (bne_iff_ne.2 hf) ⟨⟨_, rfl, rfl, rfl⟩, .inl ⟨_, _, _, blame_spec S3 D p l hL3, fun S4 x hS4 hx => ?_⟩⟩
    obtain ⟨x1, x2⟩ := x
    rw [hw, if_neg hf] at hx
    have hx1 : x1 = -1 := congrArg Prod.fst hx
    have hx2 : x2 = formE l := congrArg Prod.snd hx
    subst hx1 hx2
    exact offE (decide_eq_false (show ¬ ((p.2.1 : Nat) : Int) > 40 by omega)) (onT ⟨rfl, _, rfl, bne_iff_ne.2 hf⟩)
  have hw : wrongJ l = 0 := by
    rw [wrongJ, if_neg (fun q => q hf), if_neg (by omega)]
  refine offE (bne_eq_false_iff_eq.2 hf) ⟨⟨_, rfl, rfl, rfl⟩, .inl ⟨_, _, _, blame_spec S3 D p l hL3, fun S4 x hS4 hx => ?_⟩⟩
  obtain ⟨x1, x2⟩ := x
  rw [if_pos hw] at hx
  have hx1 : x1 = blameJ D l := congrArg Prod.fst hx
  have hx2 : x2 = 0 := congrArg Prod.snd hx
  subst hx1 hx2
  obtain ⟨-, hb1, hb2⟩ := blame_says D l (Nat.zero_le l.length)
  refine onF (offE (decide_eq_false (show ¬ blameJ D l < -1 by omega)) (offE (decide_eq_false (show ¬ blameJ D l ≥ ((p.2.1 : Nat) : Int) by omega)) ?_))
  refine ⟨[], [], Nat, [8, 9, 10] ++ List.range' 58 29, fun i => [(7, rI i)], fun _ => [], fun _ => S4, fun i => i ≤ l.length + 1, fun i => l.length + 1 - i, ?_⟩
  refine And.intro (Exists.intro 0 (And.intro (And.intro (And.intro ?_ rfl) (And.intro rfl (Store.le_refl _))) (Nat.zero_le _))) ?_
  · repeat' first | exact trivial | exact rfl | refine And.intro ?_ ?_
  rintro i hi
  have hi : i ≤ l.length + 1 := hi
  have i0 : (0 : Int) ≤ ((i : Nat) : Int) := Int.natCast_nonneg _
  refine And.intro (fun h => ?_) (fun h => ⟨rfl, true, rfl, rfl⟩)
  have hil : i ≤ l.length := by
    have : ((i : Nat) : Int) ≤ ((p.2.1 : Nat) : Int) := of_decide_eq_true h
    omega
  have hL4 := hL3.le hS4
  refine ⟨i0, by show i ≤ p.2.2; omega, ⟨_, rfl, rfl, rfl⟩, .inl ⟨_, _, _, check_spec S4 D (p.1, i, p.2.2) (l.take i) (hL4.take hil), fun S5 x hS5 hx => ?_⟩⟩
  obtain ⟨⟨xq, xb⟩, xe⟩ := x
  obtain ⟨hx1, hx2⟩ := hx
  have hx1 : xe = wrongJ (l.take i) := hx1
  rw [wrong_take hf c8 i] at hx1 hx2
  subst hx1
  rw [if_pos rfl] at hx2
  have hxb : xb = (leastJ D (l.take i)).isSome := by
    have hx2 : OPost (leastJ D (l.take i)) (l.take i).length S5 (xq, xb) := hx2
    unfold OPost at hx2
    cases ha : leastJ D (l.take i) with
    | none => rw [ha] at hx2; exact hx2.1
    | some is => rw [ha] at hx2; exact hx2.1
  obtain ⟨hsay, -, -⟩ := blame_says D l hil
  rw [hsay] at hxb
  subst hxb
  refine onF ?_
  have w1 : IntKind.i64.wrap (((i : Nat) : Int) + 1) = ((i + 1 : Nat) : Int) := wrap_i64 (by omega) (by omega)
  have hmu : l.length + 1 - (i + 1) < l.length + 1 - i := by omega
  by_cases q1 : blameJ D l < 0
  · rw [decide_eq_true q1]
    refine onE (decide_eq_true q1) (onF ⟨((i + 1 : Nat) : Int), w1, i + 1, ⟨⟨?_, rfl⟩, rfl, hS5⟩, by show i + 1 ≤ l.length + 1; omega, hmu⟩)
    repeat' first | exact trivial | exact rfl | refine And.intro ?_ ?_
  · rw [decide_eq_false q1, Bool.false_or]
    refine offE (decide_eq_false q1) (offE (by cases decide (((i : Nat) : Int) ≤ blameJ D l) <;> rfl) ⟨((i + 1 : Nat) : Int), w1, i + 1, ⟨⟨?_, rfl⟩, rfl, hS5⟩, by show i + 1 ≤ l.length + 1; omega, hmu⟩)
    repeat' first | exact trivial | exact rfl | refine And.intro ?_ ?_
end Go.Proofs.YtpfghndflegbaaaDoor
