/- law07: the law of the limits. -/
import Derived.Test.YtlecojgodkidkaaDoorFr
namespace Go.Proofs.YtlecojgodkidkaaDoor
open Go Go.Vc
set_option maxRecDepth 100000

def sA : Pk := (1, 1, 0)
def sB : Pk := (0, 8, -2147483648)
theorem text_rep (x : Pk) (n : Nat) : (textOf (List.replicate n x)).length = n * (lineR x).length := by
  induction n with
  | zero => simp [textOf]
  | succ n ih =>
    have e : textOf (List.replicate (n + 1) x) = lineR x ++ textOf (List.replicate n x) := by simp [textOf, List.replicate_succ]
    rw [e, List.length_append, ih, Nat.add_mul, Nat.one_mul, Nat.add_comm]
theorem lineA : lineR sA = [115, 116, 111, 112, 32, 49, 10] := by first | decide +kernel | kernel_rfl
theorem lenB : (lineR sB).length = 19 := by first | decide +kernel | kernel_rfl
theorem checkA : checkR sA = 0 := by decide
theorem checkB : checkR sB = 0 := by decide
theorem all_rep {x : Pk} (h : checkR x = 0) (n : Nat) : ∀ p ∈ List.replicate n x, checkR p = 0 := fun p hp => by rw [List.eq_of_mem_replicate hp]; exact h
theorem rep_snoc (x : Pk) (n : Nat) : List.replicate (n + 1) x = List.replicate n x ++ [x] := List.replicate_succ'
/-- The first i are a, the others b. -/
def mix (a b : Pk) (m i : Nat) : List Pk := List.replicate i a ++ List.replicate (m - i) b
theorem mix_len (a b : Pk) {m i : Nat} (h : i ≤ m) : (mix a b m i).length = m := by simp [mix]; omega
theorem mix_get (a b : Pk) {m i : Nat} (h : i < m) : (mix a b m i)[i]? = some b := by
  unfold mix
  rw [List.getElem?_append_right (by simp), List.length_replicate, Nat.sub_self, List.getElem?_replicate, if_pos (by omega)]
theorem mix_set (a b : Pk) {m i : Nat} (h : i < m) : (mix a b m i).set i a = mix a b m (i + 1) := by
  unfold mix
  obtain ⟨k, hk⟩ : ∃ k, m - i = k + 1 := ⟨m - i - 1, by omega⟩
  have hk2 : m - (i + 1) = k := by omega
  rw [hk, hk2, rep_snoc a i, List.replicate_succ (n := k), List.set_append_right _ _ (by simp), List.length_replicate, Nat.sub_self, List.append_assoc]
  rfl
theorem mix_end (a b : Pk) (m : Nat) : mix a b m m = List.replicate m a := by simp [mix]
theorem mix_start (a b : Pk) (m : Nat) : mix a b m 0 = List.replicate m b := by simp [mix]
theorem push_size (l : List Int) : ∀ r : ByteArray, (l.foldl (fun r n => r.push (UInt8.ofNat n.toNat)) r).size = r.size + l.length := by
  induction l with
  | nil => intro r; rfl
  | cons a l ih => intro r; rw [List.foldl_cons, ih, ByteArray.size_push, List.length_cons]; omega
theorem bytesOf_size (l : List Int) : (bytesOf l).size = l.length := by
  rw [bytesOf, push_size]
  simp
theorem parse_long (S : Store) (x : ByteArray) (hx : x.size > 65536) : Pure Tryd.prog 21 S [.string x] rLE (fun _ q => q.2 = (0, 7)) := by
  refine pure_vc agrees Tryd.func21 rfl rfl (fun S S' q hle h => h) ?_
  exact onE (decide_eq_true (by omega)) ⟨rfl, ((none, 0, 0), 0, 7), rfl, rfl⟩
theorem alike_one (S : Store) (p : Option Addr) (n c : Nat) (q : Hd) (x : Pk) (hn : n = 1) (hq : 1 = q.2.1) (hr : RowRd S p shP [x]) (hr2 : RowRd S q.1 shP [x]) : Pure Tryd.prog 19 S [.slice p n c, slV q] rB (fun _ k => k = decide ([x] = [x])) := by
  subst hn
  exact alike_spec S (p, 1, c) q [x] [x] rfl hq hr hr2 (by simp) (by simp)
set_option maxHeartbeats 1000000 in
theorem law_many (S : Store) (hL : Lw S) (x : Int) (hx : 0 ≤ x ∧ x ≤ 255) : Pure Tryd.prog 9 S [.int .u8 x] rB (fun _ k => k = true) := by
  refine pure_vc agrees Tryd.func9 rfl rfl (fun S S' q hle h => h) ?_
  have hmod : x.tmod 12 = x % 12 := Int.tmod_eq_emod_of_nonneg hx.1
  obtain ⟨m, hm⟩ := Int.eq_ofNat_of_zero_le (show 0 ≤ 4090 + x % 12 by omega)
  refine ⟨by decide, x % 12, hmod, x % 12, wrap_i64 (by omega) (by omega), 4090 + x % 12, wrap_i64 (by omega) (by omega), ?_⟩
  have hm1 : 4090 ≤ m ∧ m ≤ 4101 := by omega
  rw [hm]
  refine ⟨by omega, Int.le_refl _, by show (24 : Int) * (m : Int) ≤ _; omega, by omega, ?_⟩
  refine ⟨[], [], Nat, [6] ++ List.range' 27 9, fun i => [(26, rI i), (5, rS (bs (textOf (List.replicate i sA))))], fun i => [.row shP 26 (mix sA (0, 0, 0) m i)], fun _ => S, fun i => i ≤ m, fun i => m - i, ?_⟩
  refine And.intro (Exists.intro 0 (And.intro (And.intro (And.intro ?_ rfl) (And.intro (by show [Res.row shP 26 (List.replicate m (0, 0, 0))] = [Res.row shP 26 (mix sA (0, 0, 0) m 0)]; rw [mix_start]) (Store.le_refl _))) (Nat.zero_le _))) ?_
  · repeat' first | exact trivial | exact rfl | refine And.intro ?_ ?_
  rintro i hi
  have i0 : (0 : Int) ≤ ((i : Nat) : Int) := Int.natCast_nonneg _
  refine And.intro (fun h => ?_) (fun h => ?_)
  · have hil : i < m := by
      have : ((i : Nat) : Int) < (((List.replicate m ((0, 0, 0) : Pk)).length : Nat) : Int) := of_decide_eq_true h
      rw [List.length_replicate] at this; omega
    have hmu : m - (i + 1) < m - i := by omega
    have htl : (textOf (List.replicate i sA)).length = i * 7 := by rw [text_rep, lineA]; rfl
    refine ⟨i0, by show ((i : Nat) : Int) < ((mix sA (0, 0, 0) m i).length : Int); rw [mix_len _ _ (by omega)]; omega, (0, 0, 0), sA, mix_get _ _ hil, ⟨trivial, trivial, trivial⟩, rfl, Nat.le_refl 3, ?_⟩
    refine ⟨by rw [bs_size, htl]; show i * 7 + 7 ≤ _; omega, ((i + 1 : Nat) : Int), wrap_i64 (by omega) (by omega), i + 1, ⟨⟨?_, rfl⟩, ?_, Store.le_refl _⟩, hil, hmu⟩
    · have eS : rS (bs (textOf (List.replicate (i + 1) sA))) = rS (bs (textOf (List.replicate i sA)) ++ bs [115, 116, 111, 112, 32, 49, 10]) := by
        rw [rep_snoc, text_snoc, lineA, bs_app]
      repeat' first | exact trivial | exact rfl | exact eS.symm | refine And.intro ?_ ?_
    · show [Res.row shP 26 ((mix sA (0, 0, 0) m i).set i sA)] = [Res.row shP 26 (mix sA (0, 0, 0) m (i + 1))]
      rw [mix_set _ _ hil]
  · have hil : i = m := by
      have : ¬ ((i : Nat) : Int) < (((List.replicate m ((0, 0, 0) : Pk)).length : Nat) : Int) := of_decide_eq_false h
      rw [List.length_replicate] at this; omega
    subst hil
    clear h hi hm hmod hx
    have hlA : (textOf (List.replicate i sA)).length = i * 7 := by rw [text_rep, lineA]; rfl
    have hmix := mix_end sA (0, 0, 0) i
    refine ⟨⟨_, rfl, rfl, rfl⟩, .inr (.inr (.inl fun p1 c1 S1 hS1 hr1 _ => ⟨_, _, _, print_spec S1 (hL.le hS1) (p1, _, c1) _ rfl hr1 (by rw [mix_len _ _ (Nat.le_refl _)]; omega), fun S2 _ hS2 _ => ?_⟩))⟩
    refine ⟨⟨_, rfl, rfl, rfl⟩, .inl ⟨_, _, _, parse_spec S hL (textOf (List.replicate i sA)) (by omega), fun S3 q2 hS3 hq2 => ?_⟩⟩
    obtain ⟨⟨p2, n2, c2⟩, e2⟩ := q2
    obtain ⟨h2, rfl⟩ : Lst S3 (p2, n2, c2) (parseR (textOf (List.replicate i sA))).1 ∧ e2 = (parseR (textOf (List.replicate i sA))).2 := hq2
    have hpp := parse_print (all_rep checkA i) (by omega)
    have hL3 := hL.le hS3
    by_cases hbig : i > 4096
    · rw [if_neg (by rw [List.length_replicate]; omega)] at hpp
      have hpr : printR (mix sA (0, 0, 0) i i) = ([], 15) := by rw [printR, if_pos (by rw [mix_len _ _ (Nat.le_refl _)]; exact hbig)]
      have hn2 : n2 = 0 := by rw [hpp] at h2; exact h2.1
      subst hn2
      refine onE (decide_eq_true (by omega)) (onE (by rw [hpr]; rfl) (onE (by rw [hpp]; rfl) (onE (by rw [hpp]; rfl) (onE rfl ⟨⟨_, rfl, rfl, rfl⟩, .inl ⟨_, _, _, awake_spec S3 hL3, fun S4 b hS4 hb => ⟨rfl, _, rfl, hb⟩⟩⟩))))
    rw [if_pos (by rw [List.length_replicate]; omega)] at hpp
    have hpr : printR (mix sA (0, 0, 0) i i) = (textOf (List.replicate i sA), 0) := by
      rw [hmix, printR, if_neg (by rw [List.length_replicate]; omega), if_neg (by rw [bad_all (all_rep checkA i)]; simp), if_neg (by omega)]
    rw [hpp] at h2
    obtain ⟨hn2, hc2, hr2⟩ := h2
    have hn2 : n2 = i := by rw [← List.length_replicate (n := i) (a := sA)]; exact hn2
    subst hn2
    refine offE (decide_eq_false (by omega)) ?_
    refine ⟨[], [], Nat, [12] ++ List.range' 70 7, fun j => [(69, rI j)], fun j => [.row shP 26 (mix sB sA n2 j)], fun _ => S3, fun j => j ≤ n2, fun j => n2 - j, ?_⟩
    refine And.intro (Exists.intro 0 (And.intro (And.intro (And.intro ?_ rfl) (And.intro (by show [Res.row shP 26 (mix sA (0, 0, 0) n2 n2)] = [Res.row shP 26 (mix sB sA n2 0)]; rw [mix_start, mix_end]) (Store.le_refl _))) (Nat.zero_le _))) ?_
    · repeat' first | exact trivial | exact rfl | refine And.intro ?_ ?_
    rintro j hj
    have j0 : (0 : Int) ≤ ((j : Nat) : Int) := Int.natCast_nonneg _
    refine And.intro (fun h => ?_) (fun h => ?_)
    · have hjl : j < n2 := by
        have : ((j : Nat) : Int) < (((mix sA (0, 0, 0) n2 n2).length : Nat) : Int) := of_decide_eq_true h
        rw [mix_len _ _ (Nat.le_refl _)] at this; omega
      have hmu : n2 - (j + 1) < n2 - j := by omega
      refine ⟨j0, by show ((j : Nat) : Int) < ((mix sB sA n2 j).length : Int); rw [mix_len _ _ (by omega)]; omega, sA, sB, mix_get _ _ hjl, ⟨trivial, trivial, trivial⟩, rfl, Nat.le_refl 3, ?_⟩
      refine ⟨((j + 1 : Nat) : Int), wrap_i64 (by omega) (by omega), j + 1, ⟨⟨?_, rfl⟩, ?_, Store.le_refl _⟩, hjl, hmu⟩
      · repeat' first | exact trivial | exact rfl | refine And.intro ?_ ?_
      · show [Res.row shP 26 ((mix sB sA n2 j).set j sB)] = [Res.row shP 26 (mix sB sA n2 (j + 1))]
        rw [mix_set _ _ hjl]
    · have hjl : j = n2 := by
        have : ¬ ((j : Nat) : Int) < (((mix sA (0, 0, 0) n2 n2).length : Nat) : Int) := of_decide_eq_false h
        rw [mix_len _ _ (Nat.le_refl _)] at this; omega
      subst hjl
      refine ⟨⟨_, rfl, rfl, rfl⟩, .inr (.inr (.inl fun p4 c4 S4 hS4 hr4 _ => ⟨_, _, _, print_spec S4 (hL3.le hS4) (p4, _, c4) _ rfl hr4 (by rw [mix_len _ _ (Nat.le_refl _)]; omega), fun S5 _ hS5 _ => ?_⟩))⟩
      have hprB : printR (mix sB sA j j) = ([], 7) := by
        rw [mix_end, printR, if_neg (by rw [List.length_replicate]; omega), if_neg (by rw [bad_all (all_rep checkB j)]; simp), if_pos (by rw [text_rep, lenB]; omega)]
      refine ⟨by decide, by decide, by decide, by decide, ?_⟩
      refine ⟨⟨_, rfl, rfl, rfl⟩, .inl ⟨_, _, _, parse_long S3 _ ?_, fun S6 q6 hS6 hq6 => ?_⟩⟩
      · have e := bytesOf_size (List.replicate (Int.toNat 65537) (0 : Int))
        rw [List.length_replicate] at e
        exact Nat.lt_of_lt_of_eq (show 65536 < Int.toNat 65537 by decide) e.symm
      obtain ⟨⟨p6, n6, c6⟩, e6⟩ := q6
      obtain rfl : e6 = (0, 7) := hq6
      refine onE (by rw [hpr]; rfl) (onE (by rw [hpp]; rfl) ?_)
      have hI : (if (1 : Int) < ((j : Nat) : Int) then (1 : Int) else ((j : Nat) : Int)) = 1 := if_pos (by omega)
      have hK : (if (1 : Int) < ((j : Nat) : Int) then (1 : Int) else ((j : Nat) : Int)).toNat = 1 := by rw [hI]; rfl
      have hrA : RowRd S3 p2 shP [(1, 1, 0)] := by
        have h := hr2.take 1
        have e : (List.replicate j sA).take 1 = [((1, 1, 0) : Pk)] := by rw [List.take_replicate, show min 1 j = 1 by omega]; rfl
        rw [← e]; exact h
      have hc2 : j ≤ c2 := hc2
      refine ⟨by show (0 : Int) ≤ (if (1 : Int) < ((j : Nat) : Int) then (1 : Int) else ((j : Nat) : Int)); rw [hI]; decide, by show (if (1 : Int) < ((j : Nat) : Int) then (1 : Int) else ((j : Nat) : Int)).toNat ≤ c2; rw [hK]; omega, ⟨_, rfl, rfl, rfl⟩, .inl fun p7 c7 S7 hS7 hrd7 hpf7 => ⟨_, _, _, alike_one S7 p2 _ _ (p7, 1, c7) (1, 1, 0) ?_ rfl (hrA.le (Store.le_trans hS6 hS7)) hrd7, fun S8 b hS8 hb => ?_⟩⟩
      · exact hK
      have hb : b = true := hb.trans (decide_eq_true rfl)
      subst hb
      have hL8 := (hL3.le (Store.le_trans hS6 hS7)).le hS8
      refine onE rfl (onE (by rw [hprB]; rfl) (onE rfl (onE rfl ⟨⟨_, rfl, rfl, rfl⟩, .inl ⟨_, _, _, awake_spec S8 hL8, fun S9 b hS9 hb => ⟨rfl, _, rfl, hb⟩⟩⟩)))
end Go.Proofs.YtlecojgodkidkaaDoor
