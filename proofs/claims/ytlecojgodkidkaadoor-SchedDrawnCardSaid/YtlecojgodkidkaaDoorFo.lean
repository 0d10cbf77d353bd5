/- law07: Draw, and its law. -/
import Derived.Test.YtlecojgodkidkaaDoorFk
namespace Go.Proofs.YtlecojgodkidkaaDoor
open Go Go.Vc
set_option maxRecDepth 100000

@[reducible] def rU (n : Int) : SV := .c (.v (.int .u64 n))
theorem wrap_u64_eq (x : Int) : IntKind.u64.wrap x = x % 18446744073709551616 := by
  unfold IntKind.wrap
  have : (IntKind.u64.bits) = 64 := rfl
  simp [IntKind.signed, this]
theorem wrap_u64_in (x : Int) : 0 ≤ IntKind.u64.wrap x ∧ IntKind.u64.wrap x < 18446744073709551616 := by
  rw [wrap_u64_eq]; omega
theorem wrap_u64 {x : Int} (h1 : 0 ≤ x) (h2 : x < 18446744073709551616) : IntKind.u64.wrap x = x := by
  rw [wrap_u64_eq]; omega
def nxS (s : Int) : Int := IntKind.u64.wrap (s + 11400714819323198485)
def nxM (a : Int) : Int := bitXor .u64 (IntKind.u64.wrap (bitXor .u64 a (a.fdiv (2 ^ (min (33 : Int).toNat IntKind.u64.bits))) * 18397679294719823053)) ((IntKind.u64.wrap (bitXor .u64 a (a.fdiv (2 ^ (min (33 : Int).toNat IntKind.u64.bits))) * 18397679294719823053)).fdiv (2 ^ (min (33 : Int).toNat IntKind.u64.bits)))
theorem nxM_in (a : Int) : 0 ≤ nxM a ∧ nxM a < 18446744073709551616 := wrap_u64_in _
theorem next_spec (S : Store) (s : Int) : SpecR Tryd.prog 27 S [.box [.v (.int .u64 s)]] [.c (.ptr 0 0)] (A := Unit) (fun _ => rU (nxM (nxS s))) (fun _ => [.box [.v (.int .u64 (nxS s))]]) (fun _ _ => True) := by
  refine specR_of_vc agrees Tryd.func27 rfl (fun S S' q hle h => h) ?_
  refine ⟨nxS s, rfl, by decide, _, rfl, _, rfl, _, rfl, by decide, _, rfl, _, rfl, ?_⟩
  exact ⟨rfl, (), rfl, rfl, rfl, trivial⟩
theorem refNext_spec (S : Store) (s : Int) : Pure Tryd.prog 28 S [.int .u64 s] (A := Unit) (fun _ => .tup [(false, [.v (.int .u64 (nxS s))]), (false, [.v (.int .u64 (nxM (nxS s)))])]) (fun _ _ => True) := by
  refine pure_vc agrees Tryd.func28 rfl rfl (fun S S' q hle h => h) ?_
  refine ⟨nxS s, rfl, by decide, _, rfl, _, rfl, _, rfl, by decide, _, rfl, _, rfl, rfl, (), rfl, trivial⟩
/-- The picks drawn: the generator's state and the schedule behind i rounds. -/
def drawS (seed threads gap many : Int) : Nat → Int × List Pk
  | 0 => (seed, [])
  | i + 1 =>
    let a := drawS seed threads gap many i
    let s1 := nxS a.1
    let out1 := a.2 ++ [(0, 1 + nxM s1 % threads, nxM s1 / 4294967296 % 4)]
    if gap ≥ 1 ∧ ((i + 1 : Nat) : Int) % gap = 0 ∧ ((i + 1 : Nat) : Int) / gap ≤ many then (nxS s1, out1 ++ [(2, 0, nxM (nxS s1) % 64 - 2)]) else (s1, out1)
theorem drawS_yes {seed threads gap many : Int} {i : Nat} (h : gap ≥ 1 ∧ ((i + 1 : Nat) : Int) % gap = 0 ∧ ((i + 1 : Nat) : Int) / gap ≤ many) : drawS seed threads gap many (i + 1) =
    (nxS (nxS (drawS seed threads gap many i).1), (drawS seed threads gap many i).2 ++ [(0, 1 + nxM (nxS (drawS seed threads gap many i).1) % threads, nxM (nxS (drawS seed threads gap many i).1) / 4294967296 % 4)] ++ [(2, 0, nxM (nxS (nxS (drawS seed threads gap many i).1)) % 64 - 2)]) := by
  rw [drawS]; exact if_pos h
theorem drawS_no {seed threads gap many : Int} {i : Nat} (h : ¬ (gap ≥ 1 ∧ ((i + 1 : Nat) : Int) % gap = 0 ∧ ((i + 1 : Nat) : Int) / gap ≤ many)) : drawS seed threads gap many (i + 1) =
    (nxS (drawS seed threads gap many i).1, (drawS seed threads gap many i).2 ++ [(0, 1 + nxM (nxS (drawS seed threads gap many i).1) % threads, nxM (nxS (drawS seed threads gap many i).1) / 4294967296 % 4)]) := by
  rw [drawS]; exact if_neg h
theorem okp' (x : Pk) : ∀ y ∈ [x], shP.ok y := fun _ _ => ⟨trivial, trivial, trivial⟩
theorem shr32 {z : Int} (_h : 0 ≤ z) : z.fdiv (2 ^ (min (32 : Int).toNat IntKind.u64.bits)) = z / 4294967296 := by
  show z.fdiv 4294967296 = _
  exact Int.fdiv_eq_ediv_of_nonneg _ (by decide)
theorem drawS_len (seed threads gap many : Int) : ∀ i, (drawS seed threads gap many i).2.length ≤ 2 * i
  | 0 => by simp [drawS]
  | i + 1 => by
    have := drawS_len seed threads gap many i
    unfold drawS
    simp only
    split <;> simp <;> omega
def drawsR (threads n many : Int) : Bool := mayR threads n && decide (0 ≤ many) && decide (many ≤ 64)
def drawL (seed threads n many : Int) : List Pk := if drawsR threads n many = true then (drawS seed threads (n / (many + 1)) many n.toNat).2 else []
set_option maxHeartbeats 2000000 in
theorem draw_spec (S : Store) (seed threads n many : Int) (hm : inI64 many) : Pure Tryd.prog 15 S [.int .u64 seed, .int .i64 threads, .int .i64 n, .int .i64 many] (A := Hd) (fun q => .c (.v (slV q)))
    (fun S' q => Lst S' q (drawL seed threads n many)) := by
  refine pure_vc agrees Tryd.func15 rfl rfl (fun S S' q hle h => h.le hle) ?_
  refine ⟨⟨_, rfl, rfl, rfl⟩, .inl ⟨_, _, _, may_spec S threads n, fun S1 b hS1 hb => ?_⟩⟩
  obtain rfl : b = mayR threads n := hb
  have bad : drawsR threads n many = false → drawL seed threads n many = [] := fun h => by rw [drawL, if_neg (by rw [h]; simp)]
  by_cases h0 : mayR threads n = true
  · refine offE (ntT h0) ?_
    by_cases h1 : many < 0
    · refine onE (decide_eq_true h1) (onT ⟨rfl, (none, 0, 0), rfl, ?_⟩)
      rw [bad (by simp [drawsR]; omega)]; exact lst_nil _
    refine offE (decide_eq_false h1) ?_
    by_cases h2 : many > 64
    · refine onE (decide_eq_true h2) ⟨rfl, (none, 0, 0), rfl, ?_⟩
      rw [bad (by simp [drawsR]; omega)]; exact lst_nil _
    refine offE (decide_eq_false h2) ?_
    have hok : drawsR threads n many = true := by simp [drawsR, h0]; omega
    have hL : drawL seed threads n many = (drawS seed threads (n / (many + 1)) many n.toNat).2 := by rw [drawL, if_pos hok]
    rw [hL]
    simp only [mayR, Bool.and_eq_true, decide_eq_true_eq] at h0
    obtain ⟨⟨⟨t1, t2⟩, t3⟩, t4⟩ := h0
    obtain ⟨N, rfl⟩ := Int.eq_ofNat_of_zero_le t3
    rw [Int.toNat_natCast]
    obtain ⟨gap, hgap⟩ : ∃ gap, gap = (N : Int) / (many + 1) := ⟨_, rfl⟩
    have hdiv : ((N : Nat) : Int).tdiv (many + 1) = gap := by rw [hgap]; exact Int.tdiv_eq_ediv_of_nonneg (by omega)
    have g0 : 0 ≤ gap := by rw [hgap]; exact Int.ediv_nonneg (by omega) (by omega)
    have g1 : gap ≤ N := by rw [hgap]; exact Int.ediv_le_self _ (by omega)
    rw [← hgap]
    refine ⟨many + 1, wrap_i64 (by omega) (by omega), by omega, gap, by rw [hdiv]; exact wrap_i64 (by omega) (by omega), ?_⟩
    refine ⟨[], [(11, shP, 26)], Nat, [13] ++ List.range' 31 44, fun i => [(12, rI ((i + 1 : Nat) : Int))], fun i => [.box [.v (.int .u64 (drawS seed threads gap many i).1)], .row shP 26 (drawS seed threads gap many i).2], fun _ => S1, fun i => i ≤ N, fun i => N - i, ?_⟩
    refine And.intro (Exists.intro 0 (And.intro (And.intro (And.intro ?_ rfl) (And.intro rfl (Store.le_refl _))) (Nat.zero_le _))) ?_
    · repeat' first | exact trivial | exact rfl | refine And.intro ?_ ?_
    rintro i hi
    refine And.intro (fun h => ?_) (fun h => ?_)
    · have hil : i < N := by
        have : ((i + 1 : Nat) : Int) ≤ ((N : Nat) : Int) := of_decide_eq_true h
        omega
      have hlen := drawS_len seed threads gap many i
      refine ⟨⟨_, rfl, rfl, rfl⟩, .inr (.inl ⟨[0], _, _, _, _, rfl, next_spec S1 (drawS seed threads gap many i).1, fun S2 _ hS2 _ => ?_⟩)⟩
      generalize hst : (drawS seed threads gap many i).1 = st
      obtain ⟨z0, z1⟩ := nxM_in (nxS st)
      have e1 : (nxM (nxS st)).tmod threads = nxM (nxS st) % threads := Int.tmod_eq_emod_of_nonneg z0
      have e2 : (nxM (nxS st) / 4294967296).tmod 4 = nxM (nxS st) / 4294967296 % 4 := Int.tmod_eq_emod_of_nonneg (by omega)
      have b1 := Int.emod_nonneg (nxM (nxS st)) (show threads ≠ 0 by omega)
      have b2 := Int.emod_lt_of_pos (nxM (nxS st)) (show 0 < threads by omega)
      refine ⟨threads, wrap_u64 (by omega) (by omega), by omega, nxM (nxS st) % threads, e1, nxM (nxS st) % threads, wrap_i64 (by omega) (by omega), 1 + nxM (nxS st) % threads, wrap_i64 (by omega) (by omega), by decide, nxM (nxS st) / 4294967296, shr32 z0, by decide, nxM (nxS st) / 4294967296 % 4, e2, nxM (nxS st) / 4294967296 % 4, wrap_i64 (by omega) (by omega), [(0, 1 + nxM (nxS st) % threads, nxM (nxS st) / 4294967296 % 4)], ⟨rfl, rfl⟩, okp' _, ?_, ?_⟩
      · show ((drawS seed threads gap many i).2.length + 1) * 24 ≤ 140737488355328
        omega
      have hmu : N - (i + 1) < N - i := by omega
      by_cases c1 : gap ≥ 1
      · have m0 := Int.emod_nonneg ((i + 1 : Nat) : Int) (show gap ≠ 0 by omega)
        have m1 := Int.emod_lt_of_pos ((i + 1 : Nat) : Int) (show 0 < gap by omega)
        have em : (((i + 1 : Nat) : Int)).tmod gap = ((i + 1 : Nat) : Int) % gap := Int.tmod_eq_emod_of_nonneg (by omega)
        have ed : (((i + 1 : Nat) : Int)).tdiv gap = ((i + 1 : Nat) : Int) / gap := Int.tdiv_eq_ediv_of_nonneg (by omega)
        have d0 : 0 ≤ ((i + 1 : Nat) : Int) / gap := Int.ediv_nonneg (by omega) (by omega)
        have d1 : ((i + 1 : Nat) : Int) / gap ≤ ((i + 1 : Nat) : Int) := Int.ediv_le_self _ (by omega)
        refine onE (decide_eq_true c1) ⟨by omega, ((i + 1 : Nat) : Int) % gap, em, ?_⟩
        by_cases c2 : ((i + 1 : Nat) : Int) % gap = 0
        · refine onE (beq_iff_eq.2 c2) ⟨by omega, ((i + 1 : Nat) : Int) / gap, by rw [ed]; exact wrap_i64 (by omega) (by omega), ?_⟩
          by_cases c3 : ((i + 1 : Nat) : Int) / gap ≤ many
          · refine onE (decide_eq_true c3) ⟨⟨_, rfl, rfl, rfl⟩, .inr (.inl ⟨[0], _, _, _, _, rfl, next_spec S2 (nxS st), fun S3 _ hS3 _ => ?_⟩)⟩
            have hnew := drawS_yes (seed := seed) (threads := threads) ⟨c1, c2, c3⟩
            rw [hst] at hnew
            obtain ⟨y0, y1⟩ := nxM_in (nxS (nxS st))
            have e3 : (nxM (nxS (nxS st))).tmod 64 = nxM (nxS (nxS st)) % 64 := Int.tmod_eq_emod_of_nonneg y0
            refine ⟨by decide, nxM (nxS (nxS st)) % 64, e3, nxM (nxS (nxS st)) % 64, wrap_i64 (by omega) (by omega), nxM (nxS (nxS st)) % 64 - 2, by rw [show nxM (nxS (nxS st)) % 64 + -2 = nxM (nxS (nxS st)) % 64 - 2 by omega]; exact wrap_i64 (by omega) (by omega), [(2, 0, nxM (nxS (nxS st)) % 64 - 2)], ⟨rfl, rfl⟩, okp' _, ?_, ?_⟩
            · show (((drawS seed threads gap many i).2 ++ [(0, 1 + nxM (nxS st) % threads, nxM (nxS st) / 4294967296 % 4)]).length + 1) * 24 ≤ 140737488355328
              rw [List.length_append]; simp only [List.length_cons, List.length_nil]; omega
            refine ⟨((i + 1 + 1 : Nat) : Int), wrap_i64 (by omega) (by omega), i + 1, ⟨⟨?_, rfl⟩, ?_, Store.le_trans hS2 hS3⟩, hil, hmu⟩
            · repeat' first | exact trivial | exact rfl | refine And.intro ?_ ?_
            · show [Res.box [.v (.int .u64 (nxS (nxS st)))], Res.row shP 26 ((drawS seed threads gap many i).2 ++ [(0, 1 + nxM (nxS st) % threads, nxM (nxS st) / 4294967296 % 4)] ++ [(2, 0, nxM (nxS (nxS st)) % 64 - 2)])] = [Res.box [.v (.int .u64 (drawS seed threads gap many (i + 1)).1)], Res.row shP 26 (drawS seed threads gap many (i + 1)).2]
              rw [hnew]
          · have hnew := drawS_no (seed := seed) (threads := threads) (fun h => c3 h.2.2 : ¬ (gap ≥ 1 ∧ ((i + 1 : Nat) : Int) % gap = 0 ∧ ((i + 1 : Nat) : Int) / gap ≤ many))
            rw [hst] at hnew
            refine offE (decide_eq_false c3) ⟨((i + 1 + 1 : Nat) : Int), wrap_i64 (by omega) (by omega), i + 1, ⟨⟨?_, rfl⟩, ?_, hS2⟩, hil, hmu⟩
            · repeat' first | exact trivial | exact rfl | refine And.intro ?_ ?_
            · show [Res.box [.v (.int .u64 (nxS st))], Res.row shP 26 ((drawS seed threads gap many i).2 ++ [(0, 1 + nxM (nxS st) % threads, nxM (nxS st) / 4294967296 % 4)])] = [Res.box [.v (.int .u64 (drawS seed threads gap many (i + 1)).1)], Res.row shP 26 (drawS seed threads gap many (i + 1)).2]
              rw [hnew]
        · have hnew := drawS_no (seed := seed) (threads := threads) (fun h => c2 h.2.1 : ¬ (gap ≥ 1 ∧ ((i + 1 : Nat) : Int) % gap = 0 ∧ ((i + 1 : Nat) : Int) / gap ≤ many))
          rw [hst] at hnew
          refine offE (beq_eq_false_iff_ne.2 c2) (onF ⟨((i + 1 + 1 : Nat) : Int), wrap_i64 (by omega) (by omega), i + 1, ⟨⟨?_, rfl⟩, ?_, hS2⟩, hil, hmu⟩)
          · repeat' first | exact trivial | exact rfl | refine And.intro ?_ ?_
          · show [Res.box [.v (.int .u64 (nxS st))], Res.row shP 26 ((drawS seed threads gap many i).2 ++ [(0, 1 + nxM (nxS st) % threads, nxM (nxS st) / 4294967296 % 4)])] = [Res.box [.v (.int .u64 (drawS seed threads gap many (i + 1)).1)], Res.row shP 26 (drawS seed threads gap many (i + 1)).2]
            rw [hnew]
      · have hnew := drawS_no (seed := seed) (threads := threads) (fun h => c1 h.1 : ¬ (gap ≥ 1 ∧ ((i + 1 : Nat) : Int) % gap = 0 ∧ ((i + 1 : Nat) : Int) / gap ≤ many))
        rw [hst] at hnew
        refine offE (decide_eq_false c1) (onF (onF ⟨((i + 1 + 1 : Nat) : Int), wrap_i64 (by omega) (by omega), i + 1, ⟨⟨?_, rfl⟩, ?_, hS2⟩, hil, hmu⟩))
        · repeat' first | exact trivial | exact rfl | refine And.intro ?_ ?_
        · show [Res.box [.v (.int .u64 (nxS st))], Res.row shP 26 ((drawS seed threads gap many i).2 ++ [(0, 1 + nxM (nxS st) % threads, nxM (nxS st) / 4294967296 % 4)])] = [Res.box [.v (.int .u64 (drawS seed threads gap many (i + 1)).1)], Res.row shP 26 (drawS seed threads gap many (i + 1)).2]
          rw [hnew]
    · have hil : i = N := by
        have : ¬ ((i + 1 : Nat) : Int) ≤ ((N : Nat) : Int) := of_decide_eq_false h
        omega
      subst hil
      intro p c S' hle hrd hpf
      refine ⟨rfl, (p, (drawS seed threads gap many i).2.length, c), rfl, rfl, ?_, hrd⟩
      rcases hpf with ⟨_, h1, h2⟩ | ⟨g, _, h⟩
      · show (drawS seed threads gap many i).2.length ≤ c
        omega
      · exact h
  · refine onE (ntF (by simpa using h0)) (onT (onT ⟨rfl, (none, 0, 0), rfl, ?_⟩))
    rw [bad (by simp [drawsR, h0])]; exact lst_nil _
end Go.Proofs.YtlecojgodkidkaaDoor
