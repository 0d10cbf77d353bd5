/- law07: the law of Print. -/
import Derived.Test.YtlecojgodkidkaaDoorFq
namespace Go.Proofs.YtlecojgodkidkaaDoor
open Go Go.Vc
set_option maxRecDepth 100000

theorem bad_zero_take {l : List Pk} (h : badOf l = 0) : ∀ p ∈ l, checkR p = 0 := all_bad h
theorem good_len {l : List Pk} (h : badOf l = 0) : (textOf l).length ≤ 48 * l.length := text_len l fun p hp => ⟨(valid_64 (all_bad h p hp)).1.1, (valid_64 (all_bad h p hp)).2.1⟩
set_option maxHeartbeats 1000000 in
theorem law_prints (S : Store) (hL : Lw S) (q : Hd) (l : List Pk) (hl : l.length = q.2.1) (hr : RowRd S q.1 shP l) : Pure Tryd.prog 8 S [slV q] rB (fun _ k => k = true) := by
  obtain ⟨p, n, c⟩ := q
  simp only at hl hr
  subst hl
  refine pure_vc agrees Tryd.func8 rfl rfl (fun S S' q hle h => h) ?_
  by_cases hbig : l.length > 200
  · refine onE (decide_eq_true (by show ((l.length : Nat) : Int) > 200; omega)) ⟨⟨_, rfl, rfl, rfl⟩, .inl ⟨_, _, _, awake_spec S hL, fun S1 b hS1 hb => ⟨rfl, _, rfl, hb⟩⟩⟩
  refine offE (decide_eq_false (by show ¬ ((l.length : Nat) : Int) > 200; omega)) ?_
  refine ⟨[], [], Nat × List UInt8, [5, 6] ++ List.range' 19 14, fun a => [(3, rS (bs a.2)), (4, rI (badOf (l.take a.1))), (18, rI a.1)], fun _ => [], fun _ => S, fun a => a.1 ≤ l.length ∧ (badOf (l.take a.1) = 0 → a.2 = textOf (l.take a.1)) ∧ a.2.length ≤ 48 * a.1, fun a => l.length - a.1, ?_⟩
  refine And.intro (Exists.intro (0, []) (And.intro (And.intro (And.intro ?_ rfl) (And.intro rfl (Store.le_refl _))) ⟨Nat.zero_le _, fun _ => rfl, Nat.le_refl _⟩)) ?_
  · repeat' first | exact trivial | exact rfl | refine And.intro ?_ ?_
  rintro ⟨i, want⟩ ⟨hi, hw, hwl⟩
  simp only at hi hw hwl
  have i0 : (0 : Int) ≤ ((i : Nat) : Int) := Int.natCast_nonneg _
  refine And.intro (fun h => ?_) (fun h => ?_)
  · have hil : i < l.length := by
      have : ((i : Nat) : Int) < ((l.length : Nat) : Int) := of_decide_eq_true h
      omega
    obtain ⟨x, hx⟩ : ∃ x, l[i]? = some x := ⟨_, List.getElem?_eq_getElem hil⟩
    obtain ⟨b, o, hp, hok, hrd⟩ := row_at hr hx
    have htk : l.take (i + 1) = l.take i ++ [x] := by rw [List.take_add_one, hx]; rfl
    have hbs := bad_snoc (l.take i) x
    rw [← htk] at hbs
    have hts := text_snoc (l.take i) x
    rw [← htk] at hts
    have hmu : l.length - (i + 1) < l.length - i := by omega
    refine ⟨i0, by show ((i : Nat) : Int) < (l.length : Int); omega, b, o, hp, x, hok, hrd, ?_⟩
    by_cases hb : badOf (l.take i) = 0
    · rw [if_neg (by rw [hb]; simp)] at hbs
      refine onE (by rw [hb]; rfl) ⟨⟨_, rfl, rfl, rfl⟩, .inl ⟨_, _, _, check_spec S x, fun S1 e hS1 he => ?_⟩⟩
      obtain rfl : e = checkR x := he
      by_cases hc : checkR x = 0
      · have h64 := valid_64 hc
        have hll := line_len x h64.1.1 h64.2.1
        refine onE (by rw [hc]; rfl) ⟨⟨_, rfl, rfl, rfl⟩, .inl ⟨_, _, _, refLine_spec S1 x h64.1 h64.2, fun S2 _ hS2 _ => ?_⟩⟩
        refine ⟨by rw [bs_size, bs_size]; show want.length + (lineR x).length ≤ _; omega, ((i + 1 : Nat) : Int), wrap_i64 (by omega) (by omega), (i + 1, want ++ lineR x), ⟨⟨?_, rfl⟩, rfl, Store.le_trans hS1 hS2⟩, ⟨hil, fun _ => by rw [hts, hw hb], by show (want ++ lineR x).length ≤ _; rw [List.length_append]; omega⟩, hmu⟩
        have eB : rI (badOf (l.take (i + 1))) = rI (checkR x) := by rw [hbs]
        have eW : rS (bs (want ++ lineR x)) = rS (bs want ++ bs (lineR x)) := by rw [bs_app]
        repeat' first | exact trivial | exact rfl | exact eB.symm | exact eW.symm | refine And.intro ?_ ?_
      · refine offE (by simpa using hc) ⟨((i + 1 : Nat) : Int), wrap_i64 (by omega) (by omega), (i + 1, want), ⟨⟨?_, rfl⟩, rfl, hS1⟩, ⟨hil, fun h => absurd (hbs.symm.trans h) hc, by show want.length ≤ _; omega⟩, hmu⟩
        have eB : rI (badOf (l.take (i + 1))) = rI (checkR x) := by rw [hbs]
        repeat' first | exact trivial | exact rfl | exact eB.symm | refine And.intro ?_ ?_
    · rw [if_pos hb] at hbs
      refine offE (by simpa using hb) (offE (by simpa using hb) ⟨((i + 1 : Nat) : Int), wrap_i64 (by omega) (by omega), (i + 1, want), ⟨⟨?_, rfl⟩, rfl, Store.le_refl _⟩, ⟨hil, fun h => absurd (hbs.symm.trans h) hb, by show want.length ≤ _; omega⟩, hmu⟩)
      have eB : rI (badOf (l.take (i + 1))) = rI (badOf (l.take i)) := by rw [hbs]
      repeat' first | exact trivial | exact rfl | exact eB.symm | refine And.intro ?_ ?_
  · have hil : i = l.length := by
      have : ¬ ((i : Nat) : Int) < ((l.length : Nat) : Int) := of_decide_eq_false h
      omega
    subst hil
    have htk : List.take l.length l = l := List.take_length
    rw [htk] at hw
    refine ⟨⟨_, rfl, rfl, rfl⟩, .inl ⟨_, _, _, print_spec S hL (p, l.length, c) l rfl hr (by omega), fun S1 _ hS1 _ => ?_⟩⟩
    have hL1 := hL.le hS1
    by_cases hb : badOf l = 0
    · have hgl := good_len hb
      have hpr : printR l = (textOf l, 0) := by rw [printR, if_neg (by omega), if_neg (by rw [hb]; simp), if_neg (by omega)]
      have hpp := parse_print (all_bad hb) (by omega : (textOf l).length ≤ 65536)
      rw [if_pos (by omega)] at hpp
      rw [hw hb]
      refine offE (by rw [htk, hb]; rfl) ⟨⟨_, rfl, rfl, rfl⟩, .inl ⟨_, _, _, parse_spec S1 hL1 (printR l).1 (by rw [hpr]; show (textOf l).length ≤ _; omega), fun S2 q2 hS2 hq2 => ?_⟩⟩
      obtain ⟨hd2, e2⟩ := q2
      obtain ⟨h2, rfl⟩ : Lst S2 hd2 (parseR (printR l).1).1 ∧ e2 = (parseR (printR l).1).2 := hq2
      have hpq : parseR (printR l).1 = (l, 0, 0) := by rw [hpr]; exact hpp
      rw [hpq] at h2
      refine onE (by rw [hpr]; rfl) (onE (by rw [hpr, bsq]; exact decide_eq_true rfl) (onE (by rw [hpq]; rfl) (onE (by rw [hpq]; rfl) ⟨⟨_, rfl, rfl, rfl⟩, .inl ⟨_, _, _, alike_spec S2 hd2 (p, l.length, c) l l h2.1.symm rfl h2.2.2 ((hr.le hS1).le hS2) (by omega) (by omega), fun S3 b hS3 hb => ?_⟩⟩)))
      obtain rfl : b = _ := hb
      exact onE (decide_eq_true rfl) ⟨⟨_, rfl, rfl, rfl⟩, .inl ⟨_, _, _, awake_spec S3 ((hL1.le hS2).le hS3), fun S4 b hS4 hb => ⟨rfl, _, rfl, hb⟩⟩⟩
    · have hpr : printR l = ([], badOf l) := by rw [printR, if_neg (by omega), if_pos hb]
      refine onE (by rw [htk]; simpa using hb) (onE (by rw [hpr]; exact (bsq [] []).trans (decide_eq_true rfl)) (onE (by rw [hpr, htk]; simp) ⟨⟨_, rfl, rfl, rfl⟩, .inl ⟨_, _, _, awake_spec S1 hL1, fun S2 b hS2 hb => ⟨rfl, _, rfl, hb⟩⟩⟩))
end Go.Proofs.YtlecojgodkidkaaDoor
