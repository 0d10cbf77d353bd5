/- law07: awake; the laws Fair, Parses' first half. -/
import Derived.Test.YtlecojgodkidkaaDoorFf
namespace Go.Proofs.YtlecojgodkidkaaDoor
open Go Go.Vc
set_option maxRecDepth 100000

def example7 : List UInt8 := [115, 116, 101, 112, 32, 50, 32, 48, 10, 115, 116, 111, 112, 32, 49, 10, 99, 114, 97, 115, 104, 32, 45, 49, 10]
theorem parse_example : parseR example7 = ([(0, 2, 0), (1, 1, 0), (2, 0, -1)], 0, 0) := by decide
set_option maxHeartbeats 1000000 in
theorem awake_spec (S : Store) (hL : Lw S) : Pure Tryd.prog 12 S [] rB (fun _ k => k = true) := by
  refine pure_vc agrees Tryd.func12 rfl rfl (fun S S' q hle h => h) ?_
  refine ⟨⟨_, rfl, rfl, rfl⟩, .inl ⟨_, _, _, parse_spec S hL example7 (by decide), fun S1 q hS1 hq => ?_⟩⟩
  obtain ⟨hd, e⟩ := q
  obtain ⟨h1, rfl⟩ : Lst S1 hd (parseR example7).1 ∧ e = (parseR example7).2 := hq
  rw [parse_example] at h1
  have h2 : (parseR example7).2 = (0, 0) := by rw [parse_example]
  refine ⟨⟨_, rfl, rfl, rfl⟩, .inl ⟨_, _, _, fair_spec S1 2 3, fun S2 q hS2 hq => ?_⟩⟩
  obtain ⟨f, hf⟩ : ∃ f, f = q := ⟨_, rfl⟩
  obtain ⟨l, hl, hf1, hf2⟩ := hq
  have hl : l = [(0, 1, 0), (0, 2, 0), (0, 1, 0)] := hl
  subst hl
  refine onE (by rw [h2]; rfl) (onE (by rw [h2]; rfl) ⟨⟨_, rfl, rfl, rfl⟩, .inl fun p c S3 hS3 hrd hpf => ⟨_, _, _, alike_spec S3 hd (p, 3, c) [(0, 2, 0), (1, 1, 0), (2, 0, -1)] [(0, 2, 0), (1, 1, 0), (2, 0, -1)] h1.1.symm rfl ((h1.2.2.le hS2).le hS3) hrd (by decide) (by decide), fun S4 b hS4 hb => ?_⟩⟩)
  obtain rfl : b = _ := hb
  refine onE (decide_eq_true rfl) ⟨⟨_, rfl, rfl, rfl⟩, .inl fun p2 c2 S5 hS5 hrd2 hpf2 => ⟨_, _, _, alike_spec S5 q (p2, 3, c2) [(0, 1, 0), (0, 2, 0), (0, 1, 0)] [(0, 1, 0), (0, 2, 0), (0, 1, 0)] hf1.symm rfl (((hf2.le hS3).le hS4).le hS5) hrd2 (by decide) (by decide), fun S6 b hS6 hb => ?_⟩⟩
  obtain rfl : b = _ := hb
  exact ⟨rfl, _, rfl, decide_eq_true rfl⟩

/-- A pick that came in: its numbers are ints. -/
def okP (p : Pk) : Prop := inI64 p.1 ∧ inI64 p.2.1 ∧ inI64 p.2.2
theorem fair_at {t : Int} {N i : Nat} (h : i < N) : (fairL t N)[i]? = some (0, 1 + (i : Int) % t, 0) := by
  rw [fairL, List.getElem?_map, List.getElem?_range h]; rfl
/-- In a round-robin schedule each thread has its share. -/
theorem fair_count {T : Int} (hT : 1 ≤ T) {t : Int} (h1 : 1 ≤ t) (h2 : t ≤ T) : ∀ N : Nat, (countR t (fairL T N) : Int) = ((N : Int) + T - t) / T := by
  intro N
  induction N with
  | zero =>
    have : ((0 : Nat) : Int) + T - t = T - t := by omega
    rw [this, Int.ediv_eq_zero_of_lt (by omega) (by omega)]
    rfl
  | succ N ih =>
    rw [fairL_succ]
    have hc : countR t (fairL T N ++ [(0, 1 + (N : Int) % T, 0)]) = countR t (fairL T N) + if 1 + (N : Int) % T = t then 1 else 0 := by
      unfold countR
      rw [List.filter_append, List.length_append]
      by_cases h : 1 + (N : Int) % T = t <;> simp [h]
    rw [hc]
    have e1 := Int.emod_add_mul_ediv (N : Int) T
    have m0 : 0 ≤ (N : Int) % T := Int.emod_nonneg _ (by omega)
    have m1 : (N : Int) % T < T := Int.emod_lt_of_pos _ (by omega)
    have key : ∀ (a q r : Int), a = q * T + r → 0 ≤ r → r < T → a / T = q := by
      intro a q r h h0 h1
      rw [h, Int.add_comm, Int.add_mul_ediv_right _ _ (by omega), Int.ediv_eq_zero_of_lt h0 h1]; omega
    generalize hq : (N : Int) / T = q at e1
    generalize hr : (N : Int) % T = r at e1 m0 m1 ⊢
    have hN : (N : Int) = q * T + r := by rw [Int.mul_comm]; omega
    push_cast
    rw [ih]
    by_cases h : 1 + r = t
    · rw [if_pos h, key ((N : Int) + T - t) q (r + T - t) (by rw [hN]; omega) (by omega) (by omega), key ((N : Int) + 1 + T - t) (q + 1) 0 (by rw [hN, Int.add_mul]; omega) (by omega) (by omega)]
      rfl
    · rw [if_neg h]
      rcases Int.lt_or_gt_of_ne h with h | h
      · rw [key ((N : Int) + T - t) q (r + T - t) (by rw [hN]; omega) (by omega) (by omega), key ((N : Int) + 1 + T - t) q (r + 1 + T - t) (by rw [hN]; omega) (by omega) (by omega)]
        simp
      · rw [key ((N : Int) + T - t) (q + 1) (r - t) (by rw [hN, Int.add_mul]; omega) (by omega) (by omega), key ((N : Int) + 1 + T - t) (q + 1) (r + 1 - t) (by rw [hN, Int.add_mul]; omega) (by omega) (by omega)]
        simp
theorem fair_none {T : Int} (hT : 1 ≤ T) (N : Nat) : countR (T + 1) (fairL T N) = 0 := by
  unfold countR
  rw [List.length_eq_zero_iff, List.filter_eq_nil_iff]
  intro p hp
  obtain ⟨i, _, rfl⟩ := List.mem_map.1 hp
  have m1 : (i : Int) % T < T := Int.emod_lt_of_pos _ (by omega)
  simp; omega

set_option maxHeartbeats 2000000 in
theorem law_fair (S : Store) (hL : Lw S) (threads n : Int) (h1 : inI64 threads) (h2 : inI64 n) : Pure Tryd.prog 3 S [.int .i64 threads, .int .i64 n] rB (fun _ k => k = true) := by
  refine pure_vc agrees Tryd.func3 rfl rfl (fun S S' q hle h => h) ?_
  refine ⟨⟨_, rfl, rfl, rfl⟩, .inl ⟨_, _, _, fair_spec S threads n, fun S1 q hS1 hq => ?_⟩⟩
  obtain ⟨p, m, c⟩ := q
  obtain ⟨l, hl, hm, hr⟩ := hq
  simp only at hm hr
  have hL1 := hL.le hS1
  have out : mayR threads n = false → ((m : Int) == 0) = true := by
    intro h
    rw [h] at hl
    subst hl
    rw [hm]; rfl
  have fin : mayR threads n = false → Pure Tryd.prog 12 S1 [] rB (fun _ k => k = true) := fun _ => awake_spec S1 hL1
  by_cases a1 : threads < 1
  · have hm0 : mayR threads n = false := by simp [mayR]; omega
    refine onE (decide_eq_true a1) (onT (onT (onT (onE (out hm0) ⟨⟨_, rfl, rfl, rfl⟩, .inl ⟨_, _, _, awake_spec S1 hL1, fun S2 b hS2 hb => ?_⟩⟩))))
    exact ⟨rfl, _, rfl, hb⟩
  refine offE (decide_eq_false a1) ?_
  by_cases a2 : threads > 8
  · have hm0 : mayR threads n = false := by simp [mayR]; omega
    refine onE (decide_eq_true a2) (onT (onT (onE (out hm0) ⟨⟨_, rfl, rfl, rfl⟩, .inl ⟨_, _, _, awake_spec S1 hL1, fun S2 b hS2 hb => ?_⟩⟩)))
    exact ⟨rfl, _, rfl, hb⟩
  refine offE (decide_eq_false a2) ?_
  by_cases a3 : n < 0
  · have hm0 : mayR threads n = false := by simp [mayR]; omega
    refine onE (decide_eq_true a3) (onT (onE (out hm0) ⟨⟨_, rfl, rfl, rfl⟩, .inl ⟨_, _, _, awake_spec S1 hL1, fun S2 b hS2 hb => ?_⟩⟩))
    exact ⟨rfl, _, rfl, hb⟩
  refine offE (decide_eq_false a3) ?_
  by_cases a4 : n > 4096
  · have hm0 : mayR threads n = false := by simp [mayR]; omega
    refine onE (decide_eq_true a4) (onE (out hm0) ⟨⟨_, rfl, rfl, rfl⟩, .inl ⟨_, _, _, awake_spec S1 hL1, fun S2 b hS2 hb => ?_⟩⟩)
    exact ⟨rfl, _, rfl, hb⟩
  refine offE (decide_eq_false a4) ?_
  have hm1 : mayR threads n = true := by simp [mayR]; omega
  rw [if_pos hm1] at hl
  subst hl
  obtain ⟨N, rfl⟩ := Int.eq_ofNat_of_zero_le (show 0 ≤ n by omega)
  rw [Int.toNat_natCast] at hm hr
  rw [fairL_length] at hm
  subst hm
  refine offE (by show (!((m : Int) == (m : Int))) = false; simp) ?_
  refine ⟨[], [], Nat, [6, 7] ++ List.range' 40 12, fun i => [(39, rI i)], fun _ => [], fun _ => S1, fun i => i ≤ m, fun i => m - i, ?_⟩
  refine And.intro (Exists.intro 0 (And.intro (And.intro (And.intro ?_ rfl) (And.intro rfl (Store.le_refl _))) (Nat.zero_le _))) ?_
  · repeat' first | exact trivial | exact rfl | refine And.intro ?_ ?_
  rintro i hi
  have i0 : (0 : Int) ≤ ((i : Nat) : Int) := Int.natCast_nonneg _
  refine And.intro (fun h => ?_) (fun h => ?_)
  · have hil : i < m := by
      have : ((i : Nat) : Int) < ((m : Nat) : Int) := of_decide_eq_true h
      omega
    have hx := fair_at (t := threads) hil
    obtain ⟨b, o, hp, hok, hrd⟩ := row_at hr hx
    have hmod : ((i : Nat) : Int).tmod threads = (i : Int) % threads := Int.tmod_eq_emod_of_nonneg i0
    have m0 : 0 ≤ (i : Int) % threads := Int.emod_nonneg _ (by omega)
    have m1 : (i : Int) % threads < threads := Int.emod_lt_of_pos _ (by omega)
    refine ⟨i0, by show ((i : Nat) : Int) < (m : Int); omega, b, o, hp, (0, 1 + (i : Int) % threads, 0), hok, hrd, ?_⟩
    refine ⟨or3_9, [], oF3_9, by kernel_rfl, by omega, (i : Int) % threads, hmod, 1 + (i : Int) % threads, by rw [Int.add_comm]; exact wrap_i64 (by omega) (by omega), ?_⟩
    refine offE (by
      have := pk_eq (0, 1 + (i : Int) % threads, 0) (0, 1 + (i : Int) % threads, 0)
      rw [decide_eq_true rfl] at this
      exact congrArg (!·) this) ?_
    refine ⟨((i + 1 : Nat) : Int), wrap_i64 (by omega) (by omega), i + 1, ⟨⟨?_, rfl⟩, rfl, Store.le_refl _⟩, hil, by show m - (i + 1) < m - i; omega⟩
    repeat' first | exact trivial | exact rfl | refine And.intro ?_ ?_
  clear h
  obtain ⟨T, rfl⟩ := Int.eq_ofNat_of_zero_le (show 0 ≤ threads by omega)
  have hdiv : ((m : Nat) : Int).tdiv (T : Int) = (m : Int) / (T : Int) := Int.tdiv_eq_ediv_of_nonneg (by omega)
  have d0 : 0 ≤ (m : Int) / (T : Int) := Int.ediv_nonneg (by omega) (by omega)
  have d1 : (m : Int) / (T : Int) ≤ m := Int.ediv_le_self _ (by omega)
  refine ⟨[], [], Nat, [9] ++ List.range' 52 21, fun t => [(8, rI ((t + 1 : Nat) : Int))], fun _ => [], fun _ => S1, fun t => t ≤ T, fun t => T - t, ?_⟩
  refine And.intro (Exists.intro 0 (And.intro (And.intro (And.intro ?_ rfl) (And.intro rfl (Store.le_refl _))) (Nat.zero_le _))) ?_
  · repeat' first | exact trivial | exact rfl | refine And.intro ?_ ?_
  rintro t ht
  refine And.intro (fun h => ?_) (fun h => ?_)
  · have htl : t < T := by
      have : ((t + 1 : Nat) : Int) ≤ ((T : Nat) : Int) := of_decide_eq_true h
      omega
    refine ⟨⟨_, rfl, rfl, rfl⟩, .inl ⟨_, _, _, count_spec S1 ((t + 1 : Nat) : Int) (p, m, c) (fairL T m) (fairL_length _ _) hr (by rw [fairL_length]; omega), fun S2 k hS2 hk => ?_⟩⟩
    have hk : k = (countR ((t + 1 : Nat) : Int) (fairL T m) : Int) := hk
    rw [fair_count (T := (T : Int)) (by omega) (by omega) (by omega)] at hk
    have b1 : (m : Int) / (T : Int) ≤ k := by rw [hk]; exact Int.ediv_le_ediv (by omega) (by omega)
    have b2 : k ≤ (m : Int) / (T : Int) + 1 := by
      rw [hk, ← Int.add_mul_ediv_right _ 1 (show (T : Int) ≠ 0 by omega)]
      exact Int.ediv_le_ediv (by omega) (by omega)
    refine ⟨by omega, (m : Int) / (T : Int), by rw [hdiv]; exact wrap_i64 (by omega) (by omega), ?_⟩
    refine offE (decide_eq_false (by omega)) ⟨by omega, (m : Int) / (T : Int), by rw [hdiv]; exact wrap_i64 (by omega) (by omega), (m : Int) / (T : Int) + 1, wrap_i64 (by omega) (by omega), ?_⟩
    refine offE (decide_eq_false (by omega)) ?_
    refine ⟨((t + 1 + 1 : Nat) : Int), wrap_i64 (by omega) (by omega), t + 1, ⟨⟨?_, rfl⟩, rfl, hS2⟩, htl, by show T - (t + 1) < T - t; omega⟩
    repeat' first | exact trivial | exact rfl | refine And.intro ?_ ?_
  · refine ⟨(T : Int) + 1, wrap_i64 (by omega) (by omega), ⟨_, rfl, rfl, rfl⟩, .inl ⟨_, _, _, count_spec S1 ((T : Int) + 1) (p, m, c) (fairL T m) (fairL_length _ _) hr (by rw [fairL_length]; omega), fun S2 k hS2 hk => ?_⟩⟩
    have hk : k = (countR ((T : Int) + 1) (fairL T m) : Int) := hk
    rw [fair_none (by omega)] at hk
    refine onE (by rw [hk]; rfl) ⟨⟨_, rfl, rfl, rfl⟩, .inl ⟨_, _, _, awake_spec S2 (hL1.le hS2), fun S3 b hS3 hb => ?_⟩⟩
    exact ⟨rfl, _, rfl, hb⟩
end Go.Proofs.YtlecojgodkidkaaDoor
