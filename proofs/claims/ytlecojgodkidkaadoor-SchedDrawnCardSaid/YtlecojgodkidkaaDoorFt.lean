/- law07: the law of drawn schedules. -/
import Derived.Test.YtlecojgodkidkaaDoorFr
import Derived.Test.YtlecojgodkidkaaDoorFn
import Derived.Test.YtlecojgodkidkaaDoorFm
import Derived.Test.YtlecojgodkidkaaDoorFp
namespace Go.Proofs.YtlecojgodkidkaaDoor
open Go Go.Vc
set_option maxRecDepth 100000

/-- Steps of the threads 1..k; crashes. -/
def cntTo (k : Nat) (l : List Pk) : Nat := l.countP fun p => decide (p.1 = 0 ∧ 1 ≤ p.2.1 ∧ p.2.1 ≤ (k : Int))
def crs (l : List Pk) : Nat := l.countP fun p => decide (p.1 = 2)
theorem cnt_zero (l : List Pk) : cntTo 0 l = 0 := by
  unfold cntTo
  rw [List.countP_eq_zero]
  intro p _ h
  have := of_decide_eq_true h
  omega
theorem countR_eq (t : Int) (l : List Pk) : countR t l = l.countP fun p => decide (p.1 = 0) && decide (p.2.1 = t) := List.countP_eq_length_filter.symm
theorem cnt_succ (k : Nat) : ∀ l, cntTo (k + 1) l = cntTo k l + countR ((k + 1 : Nat) : Int) l
  | [] => rfl
  | p :: l => by
    have ih := cnt_succ k l
    rw [countR_eq] at ih ⊢
    unfold cntTo at ih ⊢
    rw [List.countP_cons, List.countP_cons, List.countP_cons, ih]
    simp only [decide_eq_true_eq, Bool.and_eq_true]
    split <;> split <;> split <;> omega
theorem cnt_le (k : Nat) (l : List Pk) : cntTo k l ≤ l.length := List.countP_le_length
theorem cnt_app (k : Nat) (l m : List Pk) : cntTo k (l ++ m) = cntTo k l + cntTo k m := List.countP_append
theorem crs_app (l m : List Pk) : crs (l ++ m) = crs l + crs m := List.countP_append
theorem cnt_step {T : Nat} (hT : 1 ≤ T) (z c : Int) : cntTo T [(0, 1 + z % (T : Int), c)] = 1 := by
  have b1 := Int.emod_nonneg z (show (T : Int) ≠ 0 by omega)
  have b2 := Int.emod_lt_of_pos z (show (0 : Int) < T by omega)
  unfold cntTo
  rw [List.countP_cons, List.countP_nil, if_pos (decide_eq_true ⟨rfl, by show 1 ≤ 1 + z % (T : Int); omega, by show 1 + z % (T : Int) ≤ T; omega⟩)]
theorem cnt_crash (k : Nat) (c : Int) : cntTo k [(2, 0, c)] = 0 := by
  unfold cntTo
  rw [List.countP_cons, List.countP_nil, if_neg (by simp)]
theorem div_succ {i g : Int} (hg : 1 ≤ g) : ((i + 1) % g = 0 ∧ (i + 1) / g = i / g + 1) ∨ ((i + 1) % g ≠ 0 ∧ (i + 1) / g = i / g) := by
  have e := Int.mul_ediv_add_emod i g
  have b1 := Int.emod_nonneg i (show g ≠ 0 by omega)
  have b2 := Int.emod_lt_of_pos i (show 0 < g by omega)
  by_cases h : i % g + 1 = g
  · left
    have := (Int.ediv_emod_unique (a := i + 1) (b := g) (q := i / g + 1) (r := 0) (by omega)).2 ⟨by rw [Int.mul_add]; omega, by omega, by omega⟩
    exact ⟨this.2, this.1⟩
  · right
    have := (Int.ediv_emod_unique (a := i + 1) (b := g) (q := i / g) (r := i % g + 1) (by omega)).2 ⟨by omega, by omega, by omega⟩
    exact ⟨by omega, this.1⟩
theorem check_step {T : Nat} (hT : 1 ≤ T) (hT8 : T ≤ 8) (z y : Int) : checkR (0, 1 + z % (T : Int), y % 4) = 0 := by
  have b1 := Int.emod_nonneg z (show (T : Int) ≠ 0 by omega)
  have b2 := Int.emod_lt_of_pos z (show (0 : Int) < T by omega)
  generalize z % (T : Int) = u at b1 b2
  unfold checkR
  rw [if_neg (by show ¬ ((0 : Int) < 0 ∨ (0 : Int) > 2); omega), if_neg (by show ¬ (((0 : Int) = 2 ∧ 1 + u ≠ 0) ∨ ((0 : Int) ≠ 2 ∧ (1 + u < 1 ∨ 1 + u > 8))); omega), if_neg (by show ¬ (((0 : Int) = 1 ∧ y % 4 ≠ 0) ∨ y % 4 < -2147483648 ∨ y % 4 > 2147483647); omega)]
theorem check_crash (y : Int) : checkR (2, 0, y % 64 - 2) = 0 := by
  unfold checkR
  rw [if_neg (by show ¬ ((2 : Int) < 0 ∨ (2 : Int) > 2); omega), if_neg (by show ¬ (((2 : Int) = 2 ∧ (0 : Int) ≠ 0) ∨ ((2 : Int) ≠ 2 ∧ ((0 : Int) < 1 ∨ (0 : Int) > 8))); omega), if_neg (by show ¬ (((2 : Int) = 1 ∧ y % 64 - 2 ≠ 0) ∨ y % 64 - 2 < -2147483648 ∨ y % 64 - 2 > 2147483647); omega)]
/-- What holds of a drawn schedule. -/
structure Drn (T : Nat) (gap many : Int) (i : Nat) (l : List Pk) : Prop where
  steps : cntTo T l = i
  len : l.length = i + crs l
  good : ∀ p ∈ l, checkR p = 0 ∧ p.1 ≠ 1
  crash : gap ≥ 1 → (crs l : Int) = min ((i : Int) / gap) many
  none : gap < 1 → crs l = 0
  head : ∀ p, l[0]? = some p → p.1 = 0
theorem head_app {l : List Pk} {a : Pk} (m : List Pk) (h : ∀ p, l[0]? = some p → p.1 = 0) (ha : a.1 = 0) : ∀ p, (l ++ a :: m)[0]? = some p → p.1 = 0 := by
  intro p hp
  cases l with
  | nil => simp at hp; rw [← hp]; exact ha
  | cons b l => simp at hp; exact h p (by simp [hp])
theorem drn (seed : Int) {T : Nat} (hT : 1 ≤ T) (hT8 : T ≤ 8) (gap many : Int) (hm : 0 ≤ many) : ∀ i, Drn T gap many i (drawS seed (T : Int) gap many i).2
  | 0 => by
    refine ⟨rfl, rfl, fun p hp => (by cases hp), fun _ => ?_, fun _ => rfl, fun p hp => (by cases hp)⟩
    show (0 : Int) = min (((0 : Nat) : Int) / gap) many
    have : ((0 : Nat) : Int) / gap = 0 := Int.zero_ediv gap
    rw [this]; omega
  | i + 1 => by
    have ih := drn seed hT hT8 gap many hm i
    generalize hst : drawS seed (T : Int) gap many i = st at ih
    obtain ⟨s, l⟩ := st
    obtain ⟨h1, h2, h3, h4, h5, h6⟩ := ih
    simp only at h1 h2 h3 h4 h5 h6
    have hst1 : (drawS seed (T : Int) gap many i).1 = s := by rw [hst]
    have hst2 : (drawS seed (T : Int) gap many i).2 = l := by rw [hst]
    by_cases hc : gap ≥ 1 ∧ ((i + 1 : Nat) : Int) % gap = 0 ∧ ((i + 1 : Nat) : Int) / gap ≤ many
    · rw [drawS_yes hc, hst1, hst2]
      have hd := div_succ (i := (i : Int)) hc.1
      have e1 : ((i + 1 : Nat) : Int) = (i : Int) + 1 := by omega
      have h4 := h4 hc.1
      obtain ⟨c1, c2, c3⟩ := hc
      rw [e1] at c2 c3
      refine ⟨?_, ?_, ?_, fun _ => ?_, fun h => by omega, ?_⟩
      · rw [cnt_app, cnt_app, cnt_step hT, cnt_crash, h1]
      · rw [crs_app, crs_app, List.length_append, List.length_append, h2]
        show i + crs l + 1 + 1 = i + 1 + (crs l + 0 + 1)
        omega
      · intro p hp
        rcases List.mem_append.1 hp with hp | hp
        · rcases List.mem_append.1 hp with hp | hp
          · exact h3 p hp
          · rw [List.mem_singleton.1 hp]; exact ⟨check_step hT hT8 _ _, (by show (0 : Int) ≠ 1; omega)⟩
        · rw [List.mem_singleton.1 hp]; exact ⟨check_crash _, (by show (2 : Int) ≠ 1; omega)⟩
      · rw [crs_app, crs_app, e1]
        show ((crs l + 0 + 1 : Nat) : Int) = _
        omega
      · rw [List.append_assoc]; exact head_app _ h6 rfl
    · rw [drawS_no hc, hst1, hst2]
      have e1 : ((i + 1 : Nat) : Int) = (i : Int) + 1 := by omega
      rw [e1] at hc
      refine ⟨?_, ?_, ?_, fun hg => ?_, fun h => ?_, ?_⟩
      · rw [cnt_app, cnt_step hT, h1]
      · rw [crs_app, List.length_append, h2]
        show i + crs l + 1 = i + 1 + (crs l + 0)
        omega
      · intro p hp
        rcases List.mem_append.1 hp with hp | hp
        · exact h3 p hp
        · rw [List.mem_singleton.1 hp]; exact ⟨check_step hT hT8 _ _, (by show (0 : Int) ≠ 1; omega)⟩
      · rw [crs_app, e1]
        show ((crs l + 0 : Nat) : Int) = _
        have h4 := h4 hg
        rcases div_succ (i := (i : Int)) hg with ⟨d1, d2⟩ | ⟨d1, d2⟩
        · have : ¬ ((i : Int) + 1) / gap ≤ many := fun h => hc ⟨hg, d1, h⟩
          omega
        · omega
      · rw [crs_app]
        show crs l + 0 = 0
        rw [h5 h]
      · exact head_app [] h6 rfl
theorem splitS_count : ∀ l, (splitS l).length = crs l + 1
  | [] => rfl
  | p :: l => by
    have ih := splitS_count l
    have e : crs (p :: l) = crs l + if p.1 = 2 then 1 else 0 := by
      unfold crs
      rw [List.countP_cons]
      simp only [decide_eq_true_eq]
    rw [splitS, e]
    by_cases h : p.1 = 2
    · rw [if_pos h, if_pos h, List.length_cons, ih]
    · rw [if_neg h, if_neg h]
      cases hs : splitS l with
      | nil => exact absurd hs (splitS_ne l)
      | cons w ws => rw [hs] at ih; simpa using ih
theorem stops_none {l : List Pk} (h : ∀ p ∈ l, p.1 ≠ 1) : stopsS l = [] := by
  have key : ∀ (l : List Pk) (out : List Int), (∀ p ∈ l, p.1 ≠ 1) → l.foldl stopStep out = out := by
    intro l
    induction l with
    | nil => intro out _; rfl
    | cons p l ih =>
      intro out h
      rw [List.foldl_cons, stopStep, if_neg (fun e => h p (by simp) e.1)]
      exact ih out fun q hq => h q (by simp [hq])
  exact key l [] h
/-- A drawn schedule can be printed, and has as many crashes as there is room for. -/
theorem drawn_all (seed : Int) {T N M : Nat} (hT : 1 ≤ T) (hT8 : T ≤ 8) (hN : N ≤ 1000) (hM : M ≤ 64) :
    cntTo T (drawL seed T N M) = N ∧ (drawL seed T N M).length = N + crs (drawL seed T N M) ∧ crs (drawL seed T N M) ≤ M ∧ (N > M → crs (drawL seed T N M) = M) ∧ (∀ p ∈ drawL seed T N M, checkR p = 0 ∧ p.1 ≠ 1) ∧ ∀ p, (drawL seed T N M)[0]? = some p → p.1 = 0 := by
  have hd : drawsR T N M = true := by
    simp only [drawsR, mayR, Bool.and_eq_true, decide_eq_true_eq]
    omega
  have hL : drawL seed T N M = (drawS seed (T : Int) ((N : Int) / ((M : Int) + 1)) M N).2 := by rw [drawL, if_pos hd, Int.toNat_natCast]
  have D := drn seed hT hT8 ((N : Int) / ((M : Int) + 1)) (M : Int) (by omega) N
  rw [← hL] at D
  generalize drawL seed T N M = l at D
  obtain ⟨h1, h2, h3, h4, h5, h6⟩ := D
  have g0 : 0 ≤ (N : Int) / ((M : Int) + 1) := Int.ediv_nonneg (by omega) (by omega)
  refine ⟨h1, h2, ?_, fun hgt => ?_, h3, h6⟩
  · by_cases hg : (N : Int) / ((M : Int) + 1) ≥ 1
    · have := h4 hg; omega
    · have := h5 (by omega); omega
  · have hg : (N : Int) / ((M : Int) + 1) ≥ 1 := (Int.le_ediv_iff_mul_le (by omega)).2 (by omega)
    have h4 := h4 hg
    have hle : (M : Int) ≤ (N : Int) / ((N : Int) / ((M : Int) + 1)) := by
      refine (Int.le_ediv_iff_mul_le (by omega)).2 ?_
      have hm := Int.ediv_mul_le (N : Int) (show ((M : Int) + 1) ≠ 0 by omega)
      generalize (N : Int) / ((M : Int) + 1) = g at *
      have : (M : Int) * g ≤ g * ((M : Int) + 1) := by rw [Int.mul_add, Int.mul_comm]; omega
      omega
    omega
set_option maxHeartbeats 1000000 in
theorem law_drawn (S : Store) (hL : Lw S) (d : Dr) : Pure Tryd.prog 10 S [vD d] rB (fun _ k => k = true) := by
  obtain ⟨seed, threads, n, many⟩ := d
  refine pure_vc agrees Tryd.func10 rfl rfl (fun S S' q hle h => h) ?_
  by_cases a1 : threads < 1
  · refine onE (decide_eq_true a1) ?_
    repeat refine onT ?_
    exact ⟨⟨_, rfl, rfl, rfl⟩, .inl ⟨_, _, _, awake_spec S hL, fun S1 b hS1 hb => ⟨rfl, _, rfl, hb⟩⟩⟩
  refine offE (decide_eq_false a1) ?_
  by_cases a2 : threads > 8
  · refine onE (decide_eq_true a2) ?_
    repeat refine onT ?_
    exact ⟨⟨_, rfl, rfl, rfl⟩, .inl ⟨_, _, _, awake_spec S hL, fun S1 b hS1 hb => ⟨rfl, _, rfl, hb⟩⟩⟩
  refine offE (decide_eq_false a2) ?_
  by_cases a3 : n < 0
  · refine onE (decide_eq_true a3) ?_
    repeat refine onT ?_
    exact ⟨⟨_, rfl, rfl, rfl⟩, .inl ⟨_, _, _, awake_spec S hL, fun S1 b hS1 hb => ⟨rfl, _, rfl, hb⟩⟩⟩
  refine offE (decide_eq_false a3) ?_
  by_cases a4 : n > 1000
  · refine onE (decide_eq_true a4) ?_
    repeat refine onT ?_
    exact ⟨⟨_, rfl, rfl, rfl⟩, .inl ⟨_, _, _, awake_spec S hL, fun S1 b hS1 hb => ⟨rfl, _, rfl, hb⟩⟩⟩
  refine offE (decide_eq_false a4) ?_
  by_cases a5 : many < 0
  · refine onE (decide_eq_true a5) ?_
    repeat refine onT ?_
    exact ⟨⟨_, rfl, rfl, rfl⟩, .inl ⟨_, _, _, awake_spec S hL, fun S1 b hS1 hb => ⟨rfl, _, rfl, hb⟩⟩⟩
  refine offE (decide_eq_false a5) ?_
  by_cases a6 : many > 64
  · refine onE (decide_eq_true a6) ?_
    exact ⟨⟨_, rfl, rfl, rfl⟩, .inl ⟨_, _, _, awake_spec S hL, fun S1 b hS1 hb => ⟨rfl, _, rfl, hb⟩⟩⟩
  refine offE (decide_eq_false a6) ?_
  obtain ⟨T, rfl⟩ := Int.eq_ofNat_of_zero_le (show 0 ≤ threads by omega)
  obtain ⟨N, rfl⟩ := Int.eq_ofNat_of_zero_le (show 0 ≤ n by omega)
  obtain ⟨M, rfl⟩ := Int.eq_ofNat_of_zero_le (show 0 ≤ many by omega)
  obtain ⟨f1, f2, f3, f4, f5, f6⟩ := drawn_all seed (T := T) (N := N) (M := M) (by omega) (by omega) (by omega) (by omega)
  refine ⟨⟨_, rfl, rfl, rfl⟩, .inl ⟨_, _, _, draw_spec S seed T N M ⟨by omega, by omega⟩, fun S1 q hS1 hq => ?_⟩⟩
  have hq : Lst S1 q (drawL seed T N M) := hq
  have hL1 := hL.le hS1
  generalize drawL seed T N M = l at f1 f2 f3 f4 f5 f6 hq
  obtain ⟨p, k, c⟩ := q
  obtain ⟨hq1, hq2, hr⟩ := hq
  simp only at hq1 hq2 hr
  subst hq1
  refine ⟨[], [], Nat, List.range' 47 12, fun k => [(4, rI (cntTo k l)), (5, rI ((k + 1 : Nat) : Int))], fun _ => [.box [.v (.int .u64 seed), .v (.int .i64 T), .v (.int .i64 N), .v (.int .i64 M)]], fun _ => S1, fun k => k ≤ T, fun k => T - k, ?_⟩
  refine And.intro (Exists.intro 0 (And.intro (And.intro (And.intro ?_ rfl) (And.intro rfl (Store.le_refl _))) (Nat.zero_le _))) ?_
  · have e0 : rI (cntTo 0 l) = rI 0 := by rw [cnt_zero]; rfl
    repeat' first | exact trivial | exact rfl | exact e0.symm | refine And.intro ?_ ?_
  rintro k hk
  refine And.intro (fun h => ?_) (fun h => ?_)
  · have hkl : k < T := by
      have : ((k + 1 : Nat) : Int) ≤ ((T : Nat) : Int) := of_decide_eq_true h
      omega
    refine ⟨⟨_, rfl, rfl, rfl⟩, .inl ⟨_, _, _, count_spec S1 ((k + 1 : Nat) : Int) (p, l.length, c) l rfl hr (by omega), fun S2 u hS2 hu => ?_⟩⟩
    obtain rfl : u = (countR ((k + 1 : Nat) : Int) l : Int) := hu
    have hs := cnt_succ k l
    have hc := cnt_le (k + 1) l
    refine ⟨(cntTo (k + 1) l : Int), by rw [hs]; exact wrap_i64 (by omega) (by omega), ((k + 1 + 1 : Nat) : Int), wrap_i64 (by omega) (by omega), k + 1, ⟨⟨?_, rfl⟩, rfl, hS2⟩, hkl, by show T - (k + 1) < T - k; omega⟩
    repeat' first | exact trivial | exact rfl | refine And.intro ?_ ?_
  · have hkl : k = T := by
      have : ¬ ((k + 1 : Nat) : Int) ≤ ((T : Nat) : Int) := of_decide_eq_false h
      omega
    subst hkl
    refine ⟨⟨_, rfl, rfl, rfl⟩, .inl ⟨_, _, _, split_sched_spec S1 (p, l.length, c) l rfl hr (by omega), fun S2 q2 hS2 hq2 => ?_⟩⟩
    obtain ⟨p2, n2, c2⟩ := q2
    obtain ⟨hs, hn2, hr2, hrr⟩ := hq2
    have hlen := hrr.length
    rw [splitS_count] at hlen
    have hn2 : n2 = hs.length := hn2
    rw [hlen] at hn2
    subst hn2
    have hL2 := hL1.le hS2
    refine offE (by show (!((cntTo k l : Int) == (N : Int))) = false; rw [f1]; simp) ⟨(M : Int) + 1, wrap_i64 (by omega) (by omega), ?_⟩
    refine offE (decide_eq_false (by show ¬ ((crs l + 1 : Nat) : Int) > (M : Int) + 1; omega)) ⟨(N : Int) + ((crs l + 1 : Nat) : Int), wrap_i64 (by omega) (by omega), (N : Int) + ((crs l + 1 : Nat) : Int) - 1, wrap_i64 (by omega) (by omega), ?_⟩
    refine offE (by show (!((l.length : Int) == (N : Int) + ((crs l + 1 : Nat) : Int) - 1)) = false; rw [f2]; simp; omega) ?_
    have hst : stopsS l = [] := stops_none fun p hp => (f5 p hp).2
    have hv : ∀ p ∈ l, checkR p = 0 := fun p hp => (f5 p hp).1
    have htl := text_len l fun p hp => ⟨(valid_64 (hv p hp)).1.1, (valid_64 (hv p hp)).2.1⟩
    have hpr : printR l = (textOf l, 0) := by rw [printR, if_neg (by omega), if_neg (by rw [bad_all hv]; simp), if_neg (by omega)]
    have hr2' := hr.le hS2
    by_cases hNM : N > M
    · have hcM := f4 hNM
      refine onE (decide_eq_true (by show (N : Int) > (M : Int); omega)) ⟨(M : Int) + 1, wrap_i64 (by omega) (by omega), ?_⟩
      refine offE (by show (!(((crs l + 1 : Nat) : Int) == (M : Int) + 1)) = false; rw [hcM]; simp) ?_
      by_cases hne : l = []
      · subst hne
        simp at f2
        omega
      · obtain ⟨a, r, rfl⟩ := List.exists_cons_of_ne_nil hne
        obtain ⟨b, o, hp, hok, hrd⟩ := row_at hr2' (show (a :: r)[0]? = some a from rfl)
        refine onE (decide_eq_true (by show (((a :: r).length : Nat) : Int) > 0; simp)) ?_
        refine ⟨by decide, by show (0 : Int) < (((a :: r).length : Nat) : Int); simp, b, o, hp, a.1, trivial, rd_field (f := 0) hrd rfl, ?_⟩
        refine offE (by rw [f6 a rfl]; rfl) ⟨⟨_, rfl, rfl, rfl⟩, .inl ⟨_, _, _, stops_spec S2 (p, (a :: r).length, c) (a :: r) rfl hr2' (by omega), fun S3 q3 hS3 hq3 => ?_⟩⟩
        obtain ⟨p3, n3, c3⟩ := q3
        obtain ⟨hn3, -⟩ := hq3
        rw [hst] at hn3
        obtain rfl : n3 = 0 := hn3
        refine offE rfl ⟨⟨_, rfl, rfl, rfl⟩, .inl ⟨_, _, _, print_spec S3 (hL2.le hS3) (p, (a :: r).length, c) (a :: r) rfl (hr2'.le hS3) (by omega), fun S4 _ hS4 _ => ?_⟩⟩
        refine onE (by rw [hpr]; rfl) ⟨⟨_, rfl, rfl, rfl⟩, .inl ⟨_, _, _, awake_spec S4 ((hL2.le hS3).le hS4), fun S5 b hS5 hb => ⟨rfl, _, rfl, hb⟩⟩⟩
    · refine offE (decide_eq_false (by show ¬ (N : Int) > (M : Int); omega)) (offE rfl ?_)
      by_cases hne : l = []
      · subst hne
        refine offE rfl (offE rfl ⟨⟨_, rfl, rfl, rfl⟩, .inl ⟨_, _, _, stops_spec S2 (p, 0, c) [] rfl hr2' (by decide), fun S3 q3 hS3 hq3 => ?_⟩⟩)
        obtain ⟨p3, n3, c3⟩ := q3
        obtain ⟨hn3, -⟩ := hq3
        rw [hst] at hn3
        obtain rfl : n3 = 0 := hn3
        refine offE rfl ⟨⟨_, rfl, rfl, rfl⟩, .inl ⟨_, _, _, print_spec S3 (hL2.le hS3) (p, 0, c) [] rfl (hr2'.le hS3) (by decide), fun S4 _ hS4 _ => ?_⟩⟩
        refine onE (by rw [hpr]; rfl) ⟨⟨_, rfl, rfl, rfl⟩, .inl ⟨_, _, _, awake_spec S4 ((hL2.le hS3).le hS4), fun S5 b hS5 hb => ⟨rfl, _, rfl, hb⟩⟩⟩
      · obtain ⟨a, r, rfl⟩ := List.exists_cons_of_ne_nil hne
        obtain ⟨b, o, hp, hok, hrd⟩ := row_at hr2' (show (a :: r)[0]? = some a from rfl)
        refine onE (decide_eq_true (by show (((a :: r).length : Nat) : Int) > 0; simp)) ?_
        refine ⟨by decide, by show (0 : Int) < (((a :: r).length : Nat) : Int); simp, b, o, hp, a.1, trivial, rd_field (f := 0) hrd rfl, ?_⟩
        refine offE (by rw [f6 a rfl]; rfl) ⟨⟨_, rfl, rfl, rfl⟩, .inl ⟨_, _, _, stops_spec S2 (p, (a :: r).length, c) (a :: r) rfl hr2' (by omega), fun S3 q3 hS3 hq3 => ?_⟩⟩
        obtain ⟨p3, n3, c3⟩ := q3
        obtain ⟨hn3, -⟩ := hq3
        rw [hst] at hn3
        obtain rfl : n3 = 0 := hn3
        refine offE rfl ⟨⟨_, rfl, rfl, rfl⟩, .inl ⟨_, _, _, print_spec S3 (hL2.le hS3) (p, (a :: r).length, c) (a :: r) rfl (hr2'.le hS3) (by omega), fun S4 _ hS4 _ => ?_⟩⟩
        refine onE (by rw [hpr]; rfl) ⟨⟨_, rfl, rfl, rfl⟩, .inl ⟨_, _, _, awake_spec S4 ((hL2.le hS3).le hS4), fun S5 b hS5 hb => ⟨rfl, _, rfl, hb⟩⟩⟩
end Go.Proofs.YtlecojgodkidkaaDoor
