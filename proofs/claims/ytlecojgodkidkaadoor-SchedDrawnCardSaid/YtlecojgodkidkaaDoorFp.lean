/- law07: the reference's Draw, and the law of Draw. -/
import Derived.Test.YtlecojgodkidkaaDoorFo
namespace Go.Proofs.YtlecojgodkidkaaDoor
open Go Go.Vc
set_option maxRecDepth 100000

theorem refDraws_spec (S : Store) (threads n many : Int) : Pure Tryd.prog 16 S [.int .i64 threads, .int .i64 n, .int .i64 many] rB (fun _ b => b = drawsR threads n many) := by
  refine pure_vc agrees Tryd.func16 rfl rfl (fun S S' q hle h => h) ?_
  unfold drawsR mayR
  by_cases h1 : threads ≥ 1
  · refine onE (decide_eq_true h1) ?_
    by_cases h2 : threads ≤ 8
    · refine onE (decide_eq_true h2) ?_
      by_cases h3 : n ≥ 0
      · refine onE (decide_eq_true h3) ?_
        by_cases h4 : n ≤ 4096
        · refine onE (decide_eq_true h4) ?_
          by_cases h5 : many ≥ 0
          · exact onE (decide_eq_true h5) ⟨rfl, _, rfl, by have h6 : (0 : Int) ≤ many := h5; simp [h1, h2, h3, h4, h6]⟩
          · exact offE (decide_eq_false h5) ⟨rfl, _, rfl, by simp; omega⟩
        · exact offE (decide_eq_false h4) (offE rfl ⟨rfl, _, rfl, by simp; omega⟩)
      · exact offE (decide_eq_false h3) (offE rfl (offE rfl ⟨rfl, _, rfl, by simp; omega⟩))
    · exact offE (decide_eq_false h2) (offE rfl (offE rfl (offE rfl ⟨rfl, _, rfl, by simp; omega⟩)))
  · exact offE (decide_eq_false h1) (offE rfl (offE rfl (offE rfl (offE rfl ⟨rfl, _, rfl, by simp; omega⟩))))
set_option maxHeartbeats 2000000 in
theorem refDraw_spec (S : Store) (seed threads n many : Int) : Pure Tryd.prog 18 S [.int .u64 seed, .int .i64 threads, .int .i64 n, .int .i64 many] (A := Hd) (fun q => .c (.v (slV q)))
    (fun S' q => Lst S' q (drawL seed threads n many)) := by
  refine pure_vc agrees Tryd.func18 rfl rfl (fun S S' q hle h => h.le hle) ?_
  refine ⟨⟨_, rfl, rfl, rfl⟩, .inl ⟨_, _, _, refDraws_spec S threads n many, fun S1 b hS1 hb => ?_⟩⟩
  obtain rfl : b = drawsR threads n many := hb
  by_cases hok : drawsR threads n many = true
  · refine offE (ntT hok) ?_
    have hL : drawL seed threads n many = (drawS seed threads (n / (many + 1)) many n.toNat).2 := by rw [drawL, if_pos hok]
    rw [hL]
    simp only [drawsR, mayR, Bool.and_eq_true, decide_eq_true_eq] at hok
    obtain ⟨⟨⟨⟨⟨t1, t2⟩, t3⟩, t4⟩, h1⟩, h2⟩ := hok
    obtain ⟨N, rfl⟩ := Int.eq_ofNat_of_zero_le t3
    rw [Int.toNat_natCast]
    obtain ⟨gap, hgap⟩ : ∃ gap, gap = (N : Int) / (many + 1) := ⟨_, rfl⟩
    have hdiv : ((N : Nat) : Int).tdiv (many + 1) = gap := by rw [hgap]; exact Int.tdiv_eq_ediv_of_nonneg (by omega)
    have g0 : 0 ≤ gap := by rw [hgap]; exact Int.ediv_nonneg (by omega) (by omega)
    have g1 : gap ≤ N := by rw [hgap]; exact Int.ediv_le_self _ (by omega)
    rw [← hgap]
    refine ⟨many + 1, wrap_i64 (by omega) (by omega), by omega, gap, by rw [hdiv]; exact wrap_i64 (by omega) (by omega), ?_⟩
    refine ⟨[], [(9, shP, 54)], Nat, [12] ++ List.range' 25 53, fun i => [(11, rU (drawS seed threads gap many i).1), (13, rI ((i + 1 : Nat) : Int))], fun i => [.row shP 54 (drawS seed threads gap many i).2], fun _ => S1, fun i => i ≤ N, fun i => N - i, ?_⟩
    refine And.intro (Exists.intro 0 (And.intro (And.intro (And.intro ?_ rfl) (And.intro rfl (Store.le_refl _))) (Nat.zero_le _))) ?_
    · repeat' first | exact trivial | exact rfl | refine And.intro ?_ ?_
    rintro i hi
    refine And.intro (fun h => ?_) (fun h => ?_)
    · have hil : i < N := by
        have : ((i + 1 : Nat) : Int) ≤ ((N : Nat) : Int) := of_decide_eq_true h
        omega
      have hlen := drawS_len seed threads gap many i
      refine ⟨⟨_, rfl, rfl, rfl⟩, .inl ⟨_, _, _, refNext_spec S1 (drawS seed threads gap many i).1, fun S2 _ hS2 _ => ?_⟩⟩
      generalize hst : (drawS seed threads gap many i).1 = st
      obtain ⟨z0, z1⟩ := nxM_in (nxS st)
      have e1 : (nxM (nxS st)).tmod threads = nxM (nxS st) % threads := Int.tmod_eq_emod_of_nonneg z0
      have e2 : (nxM (nxS st) / 4294967296).tmod 4 = nxM (nxS st) / 4294967296 % 4 := Int.tmod_eq_emod_of_nonneg (by omega)
      have b1 := Int.emod_nonneg (nxM (nxS st)) (show threads ≠ 0 by omega)
      have b2 := Int.emod_lt_of_pos (nxM (nxS st)) (show 0 < threads by omega)
      refine ⟨threads, wrap_u64 (by omega) (by omega), by omega, nxM (nxS st) % threads, e1, nxM (nxS st) % threads, wrap_i64 (by omega) (by omega), 1 + nxM (nxS st) % threads, wrap_i64 (by omega) (by omega), by decide, nxM (nxS st) / 4294967296, shr32 z0, by decide, nxM (nxS st) / 4294967296 % 4, e2, nxM (nxS st) / 4294967296 % 4, wrap_i64 (by omega) (by omega), [(0, 1 + nxM (nxS st) % threads, nxM (nxS st) / 4294967296 % 4)], ⟨rfl, rfl⟩, okp' _, ?_, ?_⟩
      · show ((drawS seed threads gap many i).2.length + 1) * 24 ≤ 140737488355328
        omega
      have hmu : N - (i + 1) < N - i := by omega
      by_cases c1 : gap ≥ 1
      · have m0 := Int.emod_nonneg ((i + 1 : Nat) : Int) (show gap ≠ 0 by omega)
        have m1 := Int.emod_lt_of_pos ((i + 1 : Nat) : Int) (show 0 < gap by omega)
        have em : (((i + 1 : Nat) : Int)).tmod gap = ((i + 1 : Nat) : Int) % gap := Int.tmod_eq_emod_of_nonneg (by omega)
        have ed : (((i + 1 : Nat) : Int)).tdiv gap = ((i + 1 : Nat) : Int) / gap := Int.tdiv_eq_ediv_of_nonneg (by omega)
        have d0 : 0 ≤ ((i + 1 : Nat) : Int) / gap := Int.ediv_nonneg (by omega) (by omega)
        have d1 : ((i + 1 : Nat) : Int) / gap ≤ ((i + 1 : Nat) : Int) := Int.ediv_le_self _ (by omega)
        refine onE (decide_eq_true (show gap > 0 by omega)) ⟨by omega, ((i + 1 : Nat) : Int) % gap, em, ?_⟩
        by_cases c2 : ((i + 1 : Nat) : Int) % gap = 0
        · refine onE (beq_iff_eq.2 c2) ⟨by omega, ((i + 1 : Nat) : Int) / gap, by rw [ed]; exact wrap_i64 (by omega) (by omega), ?_⟩
          by_cases c3 : ((i + 1 : Nat) : Int) / gap ≤ many
          · refine onE (decide_eq_true c3) ⟨⟨_, rfl, rfl, rfl⟩, .inl ⟨_, _, _, refNext_spec S2 (nxS st), fun S3 _ hS3 _ => ?_⟩⟩
            have hnew := drawS_yes (seed := seed) (threads := threads) ⟨c1, c2, c3⟩
            rw [hst] at hnew
            obtain ⟨y0, y1⟩ := nxM_in (nxS (nxS st))
            have e3 : (nxM (nxS (nxS st))).tmod 64 = nxM (nxS (nxS st)) % 64 := Int.tmod_eq_emod_of_nonneg y0
            refine ⟨by decide, nxM (nxS (nxS st)) % 64, e3, nxM (nxS (nxS st)) % 64, wrap_i64 (by omega) (by omega), nxM (nxS (nxS st)) % 64 - 2, wrap_i64 (by omega) (by omega), [(2, 0, nxM (nxS (nxS st)) % 64 - 2)], ⟨rfl, rfl⟩, okp' _, ?_, ?_⟩
            · show (((drawS seed threads gap many i).2 ++ [(0, 1 + nxM (nxS st) % threads, nxM (nxS st) / 4294967296 % 4)]).length + 1) * 24 ≤ 140737488355328
              rw [List.length_append]; simp only [List.length_cons, List.length_nil]; omega
            refine ⟨((i + 1 + 1 : Nat) : Int), wrap_i64 (by omega) (by omega), i + 1, ⟨⟨?_, rfl⟩, ?_, Store.le_trans hS2 hS3⟩, hil, hmu⟩
            · have eS : rU (drawS seed threads gap many (i + 1)).1 = rU (nxS (nxS st)) := by rw [hnew]
              repeat' first | exact trivial | exact rfl | exact eS.symm | refine And.intro ?_ ?_
            · show [Res.row shP 54 ((drawS seed threads gap many i).2 ++ [(0, 1 + nxM (nxS st) % threads, nxM (nxS st) / 4294967296 % 4)] ++ [(2, 0, nxM (nxS (nxS st)) % 64 - 2)])] = [Res.row shP 54 (drawS seed threads gap many (i + 1)).2]
              rw [hnew]
          · have hnew := drawS_no (seed := seed) (threads := threads) (fun h => c3 h.2.2 : ¬ (gap ≥ 1 ∧ ((i + 1 : Nat) : Int) % gap = 0 ∧ ((i + 1 : Nat) : Int) / gap ≤ many))
            rw [hst] at hnew
            refine offE (decide_eq_false c3) ⟨((i + 1 + 1 : Nat) : Int), wrap_i64 (by omega) (by omega), i + 1, ⟨⟨?_, rfl⟩, ?_, hS2⟩, hil, hmu⟩
            · have eS : rU (drawS seed threads gap many (i + 1)).1 = rU (nxS st) := by rw [hnew]
              repeat' first | exact trivial | exact rfl | exact eS.symm | refine And.intro ?_ ?_
            · show [Res.row shP 54 ((drawS seed threads gap many i).2 ++ [(0, 1 + nxM (nxS st) % threads, nxM (nxS st) / 4294967296 % 4)])] = [Res.row shP 54 (drawS seed threads gap many (i + 1)).2]
              rw [hnew]
        · have hnew := drawS_no (seed := seed) (threads := threads) (fun h => c2 h.2.1 : ¬ (gap ≥ 1 ∧ ((i + 1 : Nat) : Int) % gap = 0 ∧ ((i + 1 : Nat) : Int) / gap ≤ many))
          rw [hst] at hnew
          refine offE (beq_eq_false_iff_ne.2 c2) (onF ⟨((i + 1 + 1 : Nat) : Int), wrap_i64 (by omega) (by omega), i + 1, ⟨⟨?_, rfl⟩, ?_, hS2⟩, hil, hmu⟩)
          · have eS : rU (drawS seed threads gap many (i + 1)).1 = rU (nxS st) := by rw [hnew]
            repeat' first | exact trivial | exact rfl | exact eS.symm | refine And.intro ?_ ?_
          · show [Res.row shP 54 ((drawS seed threads gap many i).2 ++ [(0, 1 + nxM (nxS st) % threads, nxM (nxS st) / 4294967296 % 4)])] = [Res.row shP 54 (drawS seed threads gap many (i + 1)).2]
            rw [hnew]
      · have hnew := drawS_no (seed := seed) (threads := threads) (fun h => c1 h.1 : ¬ (gap ≥ 1 ∧ ((i + 1 : Nat) : Int) % gap = 0 ∧ ((i + 1 : Nat) : Int) / gap ≤ many))
        rw [hst] at hnew
        refine offE (decide_eq_false (show ¬ gap > 0 by omega)) (onF (onF ⟨((i + 1 + 1 : Nat) : Int), wrap_i64 (by omega) (by omega), i + 1, ⟨⟨?_, rfl⟩, ?_, hS2⟩, hil, hmu⟩))
        · have eS : rU (drawS seed threads gap many (i + 1)).1 = rU (nxS st) := by rw [hnew]
          repeat' first | exact trivial | exact rfl | exact eS.symm | refine And.intro ?_ ?_
        · show [Res.row shP 54 ((drawS seed threads gap many i).2 ++ [(0, 1 + nxM (nxS st) % threads, nxM (nxS st) / 4294967296 % 4)])] = [Res.row shP 54 (drawS seed threads gap many (i + 1)).2]
          rw [hnew]
    · have hil : i = N := by
        have : ¬ ((i + 1 : Nat) : Int) ≤ ((N : Nat) : Int) := of_decide_eq_false h
        omega
      subst hil
      intro p c S' hle hrd hpf
      refine ⟨rfl, (p, (drawS seed threads gap many i).2.length, c), rfl, rfl, ?_, hrd⟩
      rcases hpf with ⟨_, h1, h2⟩ | ⟨g, _, h⟩
      · show (drawS seed threads gap many i).2.length ≤ c
        omega
      · exact h
  · have bad : drawL seed threads n many = [] := by rw [drawL, if_neg hok]
    refine onE (ntF (by simpa using hok)) ⟨rfl, (none, 0, 0), rfl, ?_⟩
    rw [bad]; exact lst_nil _
/-- What Draw is asked with. -/
abbrev Dr := Int × Int × Int × Int
@[reducible] def vD (d : Dr) : Value := .agg #[.int .u64 d.1, .int .i64 d.2.1, .int .i64 d.2.2.1, .int .i64 d.2.2.2]
theorem drawL_len (seed threads n many : Int) : (drawL seed threads n many).length ≤ 8192 := by
  unfold drawL
  split
  · rename_i h
    simp only [drawsR, mayR, Bool.and_eq_true, decide_eq_true_eq] at h
    have := drawS_len seed threads (n / (many + 1)) many n.toNat
    omega
  · simp
set_option maxHeartbeats 1000000 in
theorem law_draws (S : Store) (hL : Lw S) (d : Dr) (hd : inI64 d.2.2.2) : Pure Tryd.prog 5 S [vD d] rB (fun _ k => k = true) := by
  obtain ⟨seed, threads, n, many⟩ := d
  refine pure_vc agrees Tryd.func5 rfl rfl (fun S S' q hle h => h) ?_
  have hlen := drawL_len seed threads n many
  refine ⟨⟨_, rfl, rfl, rfl⟩, .inl ⟨_, _, _, draw_spec S seed threads n many hd, fun S1 q1 hS1 hq1 => ?_⟩⟩
  have hq1 : Lst S1 q1 (drawL seed threads n many) := hq1
  refine ⟨⟨_, rfl, rfl, rfl⟩, .inl ⟨_, _, _, refDraws_spec S1 threads n many, fun S2 b hS2 hb => ?_⟩⟩
  obtain rfl : b = drawsR threads n many := hb
  have hL2 := (hL.le hS1).le hS2
  by_cases hok : drawsR threads n many = true
  · refine offE (ntT hok) ⟨⟨_, rfl, rfl, rfl⟩, .inl ⟨_, _, _, refDraw_spec S2 seed threads n many, fun S3 q3 hS3 hq3 => ?_⟩⟩
    have hq3 : Lst S3 q3 (drawL seed threads n many) := hq3
    have g1 := (hq1.le hS2).le hS3
    refine ⟨⟨_, rfl, rfl, rfl⟩, .inl ⟨_, _, _, same_spec S3 q1 q3 _ _ g1.1.symm hq3.1.symm g1.2.2 hq3.2.2 (by omega) (by omega), fun S4 b hS4 hb => ?_⟩⟩
    obtain rfl : b = _ := hb
    refine onE (decide_eq_true rfl) ⟨⟨_, rfl, rfl, rfl⟩, .inl ⟨_, _, _, draw_spec S4 seed threads n many hd, fun S5 q5 hS5 hq5 => ?_⟩⟩
    have hq5 : Lst S5 q5 (drawL seed threads n many) := hq5
    have g2 := (g1.le hS4).le hS5
    refine ⟨⟨_, rfl, rfl, rfl⟩, .inl ⟨_, _, _, alike_spec S5 q1 q5 _ _ g2.1.symm hq5.1.symm g2.2.2 hq5.2.2 (by omega) (by omega), fun S6 b hS6 hb => ?_⟩⟩
    obtain rfl : b = _ := hb
    refine onE (decide_eq_true rfl) ⟨⟨_, rfl, rfl, rfl⟩, .inl ⟨_, _, _, awake_spec S6 ((((hL2.le hS3).le hS4).le hS5).le hS6), fun S7 b hS7 hb => ?_⟩⟩
    exact ⟨rfl, _, rfl, hb⟩
  · have bad : drawL seed threads n many = [] := by rw [drawL, if_neg hok]
    have hn : q1.2.1 = 0 := by rw [hq1.1, bad]; rfl
    refine onE (ntF (by simpa using hok)) (onE (by show ((q1.2.1 : Int) == 0) = true; rw [hn]; rfl) ⟨⟨_, rfl, rfl, rfl⟩, .inl ⟨_, _, _, awake_spec S2 hL2, fun S3 b hS3 hb => ?_⟩⟩)
    exact ⟨rfl, _, rfl, hb⟩
end Go.Proofs.YtlecojgodkidkaaDoor
