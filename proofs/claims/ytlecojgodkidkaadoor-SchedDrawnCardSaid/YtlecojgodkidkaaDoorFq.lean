/- law07: the law of Parse. -/
import Derived.Test.YtlecojgodkidkaaDoorFv
import Derived.Test.YtlecojgodkidkaaDoorFj
import Derived.Test.YtlecojgodkidkaaDoorFk
namespace Go.Proofs.YtlecojgodkidkaaDoor
open Go Go.Vc
set_option maxRecDepth 100000

theorem parseP_len : ∀ (ls : List (List UInt8)) (n : Nat) (acc : List Pk), acc.length ≤ 4096 → (parseP n acc ls).1.length ≤ 4096
  | [], _, _, _ => by simp [parseP]
  | [t], _, acc, h => by
    rw [parseP]
    by_cases ht : t = []
    · rw [if_pos ht]; exact h
    · rw [if_neg ht]; simp
  | l :: m :: ls, n, acc, h => by
    rw [parseP]
    by_cases h1 : (readR l).2 ≠ 0
    · rw [if_pos h1]; simp
    rw [if_neg h1]
    by_cases h2 : acc.length = 4096
    · rw [if_pos h2]; simp
    rw [if_neg h2]
    exact parseP_len (m :: ls) (n + 1) _ (by simp; omega)
theorem parseR_len (s : List UInt8) : (parseR s).1.length ≤ 4096 := by
  unfold parseR
  split
  · simp
  · exact parseP_len _ _ _ (Nat.zero_le _)
theorem law_parses (S : Store) (hL : Lw S) (x : ByteArray) : Pure Tryd.prog 7 S [.string x] rB (fun _ k => k = true) := by
  obtain ⟨s, rfl⟩ : ∃ s, x = bs s := ⟨x.data.toList, (data_bs x).symm⟩
  refine pure_vc agrees Tryd.func7 rfl rfl (fun S S' q hle h => h) ?_
  by_cases h0 : s.length > 3000
  · refine onE (by rw [bs_size]; exact decide_eq_true (by omega)) ⟨⟨_, rfl, rfl, rfl⟩, .inl ⟨_, _, _, awake_spec S hL, fun S1 b hS1 hb => ⟨rfl, _, rfl, hb⟩⟩⟩
  refine offE (by rw [bs_size]; exact decide_eq_false (by omega)) ?_
  have hlen := parseR_len s
  refine ⟨⟨_, rfl, rfl, rfl⟩, .inl ⟨_, _, _, parse_spec S hL s (by omega), fun S1 q1 hS1 hq1 => ?_⟩⟩
  obtain ⟨hd1, e1⟩ := q1
  obtain ⟨h1, rfl⟩ : Lst S1 hd1 (parseR s).1 ∧ e1 = (parseR s).2 := hq1
  refine ⟨⟨_, rfl, rfl, rfl⟩, .inl ⟨_, _, _, refParse_spec S1 s (by omega), fun S2 q2 hS2 hq2 => ?_⟩⟩
  obtain ⟨hd2, e2⟩ := q2
  obtain ⟨h2, rfl⟩ : Lst S2 hd2 (parseR s).1 ∧ e2 = (parseR s).2 := hq2
  have h1 := h1.le hS2
  refine offE (by simp) (offE (by simp) ⟨⟨_, rfl, rfl, rfl⟩, .inl ⟨_, _, _, same_spec S2 hd1 hd2 _ _ h1.1.symm h2.1.symm h1.2.2 h2.2.2 (by omega) (by omega), fun S3 b hS3 hb => ?_⟩⟩)
  obtain rfl : b = _ := hb
  have hL3 := ((hL.le hS1).le hS2).le hS3
  refine offE (ntT (decide_eq_true rfl)) ?_
  by_cases hb : (parseR s).2.2 = 0
  · have hp := (print_parse (by omega) hb).1
    refine offE (by rw [hb]; rfl) ⟨⟨_, rfl, rfl, rfl⟩, .inl ⟨_, _, _, print_spec S3 hL3 hd1 _ h1.1.symm (h1.2.2.le hS3) (by omega), fun S4 _ hS4 _ => ?_⟩⟩
    refine onE (by rw [hp]; rfl) (onE (by rw [hp, bsq]; exact decide_eq_true rfl) ⟨⟨_, rfl, rfl, rfl⟩, .inl ⟨_, _, _, awake_spec S4 (hL3.le hS4), fun S5 b hS5 hb => ⟨rfl, _, rfl, hb⟩⟩⟩)
  · refine onE (by simpa using hb) ⟨⟨_, rfl, rfl, rfl⟩, .inl ⟨_, _, _, awake_spec S3 hL3, fun S4 b hS4 hb => ⟨rfl, _, rfl, hb⟩⟩⟩
end Go.Proofs.YtlecojgodkidkaaDoor
