/- law07: the reference's Parse. -/
import Derived.Test.YtlecojgodkidkaaDoorFi
import Derived.Test.YtlecojgodkidkaaDoorFf
namespace Go.Proofs.YtlecojgodkidkaaDoor
open Go Go.Vc
set_option maxRecDepth 100000

set_option maxHeartbeats 1000000 in
theorem refParse_spec (S : Store) (s : List UInt8) (hs : s.length ≤ 1000000) :
    Pure Tryd.prog 22 S [.string (bs s)] rLE (fun S' q => Lst S' q.1 (parseR s).1 ∧ q.2 = (parseR s).2) := by
  refine pure_vc agrees Tryd.func22 rfl rfl (fun S S' q hle h => ⟨h.1.le hle, h.2⟩) ?_
  by_cases h0 : s.length > 65536
  · have hR : parseR s = ([], 0, 7) := if_pos h0
    refine onE (by rw [bs_size]; exact decide_eq_true (by omega)) ⟨rfl, ((none, 0, 0), 0, 7), rfl, ?_, ?_⟩
    · rw [hR]; exact lst_nil _
    · rw [hR]
  have hR : parseR s = parseP 1 [] (Txt.pieces 10 s) := if_neg h0
  rw [hR]
  refine offE (by rw [bs_size]; exact decide_eq_false (by omega)) ?_
  refine ⟨[], [(5, shP, 54)], Nat × Nat × List Pk × List UInt8, List.range' 9 2 ++ List.range' 11 45, fun a => [(6, rS (bs a.2.2.2)), (7, rI a.2.1), (8, rI a.1)], fun a => [.row shP 54 a.2.2.1], fun _ => S,
    fun a => parseP a.2.1 a.2.2.1 (Txt.pieces 10 (a.2.2.2 ++ s.drop a.1)) = parseP 1 [] (Txt.pieces 10 s) ∧ a.2.1 = a.2.2.1.length + 1 ∧ a.1 ≤ s.length ∧ a.2.2.2.length ≤ a.1 ∧ (10 : UInt8) ∉ a.2.2.2 ∧ a.2.2.1.length ≤ 4096, fun a => s.length - a.1, ?_⟩
  refine And.intro (Exists.intro (0, 1, [], []) (And.intro (And.intro (And.intro ?_ rfl) (And.intro rfl (Store.le_refl _))) ⟨rfl, rfl, Nat.zero_le _, Nat.le_refl _, by simp, Nat.zero_le _⟩)) ?_
  · repeat' first | exact trivial | exact rfl | refine And.intro ?_ ?_
  rintro ⟨i, n, acc, line⟩ ⟨hinv, hn, hi, hll, h10, hacc⟩
  simp only at hinv hn hi hll h10 hacc
  have i0 : (0 : Int) ≤ ((i : Nat) : Int) := Int.natCast_nonneg _
  refine And.intro (fun h => ?_) (fun h => ?_)
  · have hil : i < s.length := by
      have h : ((i : Nat) : Int) < (((bs s).size : Nat) : Int) := of_decide_eq_true h
      rw [bs_size] at h; omega
    obtain ⟨x, hx⟩ : ∃ x, s[i]? = some x := ⟨_, List.getElem?_eq_getElem hil⟩
    have hdr : s.drop i = x :: s.drop (i + 1) := by
      rw [List.drop_eq_getElem_cons hil]
      congr 1
      rw [List.getElem?_eq_getElem hil] at hx
      exact Option.some.inj hx
    refine ⟨i0, x, by rw [bs_get]; exact hx, ?_⟩
    have hmu : s.length - (i + 1) < s.length - i := by omega
    by_cases hx10 : x = 10
    · refine offE (by rw [hx10]; rfl) ?_
      rw [hdr, hx10, parse_hit h10] at hinv
      refine ⟨⟨_, rfl, rfl, rfl⟩, .inl ⟨_, _, _, refRead_spec S line (by omega), fun S1 _ hS1 _ => ?_⟩⟩
      by_cases he : (readR line).2 = 0
      · rw [if_neg (by rw [he]; simp)] at hinv
        refine onE (by rw [he]; rfl) ?_
        by_cases hf : acc.length = 4096
        · rw [if_pos hf] at hinv
          refine onE (decide_eq_true (by show ((n : Nat) : Int) > 4096; omega)) ?_
          refine onT ⟨rfl, ((none, 0, 0), n, 15), rfl, ?_, ?_⟩
          · rw [← hinv]; exact lst_nil _
          · rw [← hinv]
        · rw [if_neg hf] at hinv
          refine offE (decide_eq_false (by show ¬ ((n : Nat) : Int) > 4096; omega)) ?_
          refine offE (by rw [he]; rfl) ⟨[(readR line).1], ⟨rfl, rfl⟩, fun _ _ => ⟨trivial, trivial, trivial⟩, by show (acc.length + 1) * 24 ≤ 140737488355328; omega, ((n + 1 : Nat) : Int), wrap_i64 (by simp only; omega) (by simp only; omega), ((i + 1 : Nat) : Int), wrap_i64 (by simp only; omega) (by simp only; omega), (i + 1, n + 1, acc ++ [(readR line).1], []), ⟨⟨?_, rfl⟩, rfl, hS1⟩, ⟨hinv, by simp; omega, hil, Nat.zero_le _, by simp, by simp; omega⟩, hmu⟩
          repeat' first | exact trivial | exact rfl | refine And.intro ?_ ?_
      · rw [if_pos he] at hinv
        refine offE (by simpa using he) (onF (onE (by simpa using he) ⟨rfl, ((none, 0, 0), n, (readR line).2), rfl, ?_, ?_⟩))
        · rw [← hinv]; exact lst_nil _
        · rw [← hinv]
    · refine onE (by
        have : ((x.toNat : Int) == 10) = false := by
          refine beq_eq_false_iff_ne.2 fun e => hx10 ?_
          have e : x.toNat = 10 := by omega
          exact UInt8.toNat_inj.1 e
        show (!((x.toNat : Int) == 10)) = true
        rw [this]; rfl) ?_
      have hext : bs line ++ (bs s).extract i (i + 1) = bs (line ++ [x]) := by rw [bs_ext s i hx, bs_app]
      refine ⟨((i + 1 : Nat) : Int), wrap_i64 (by simp only; omega) (by simp only; omega), i0, by omega, by show i ≤ i + 1; omega, by show i + 1 ≤ (bs s).size; rw [bs_size]; exact hil, ?_, ((i + 1 : Nat) : Int), wrap_i64 (by simp only; omega) (by simp only; omega), (i + 1, n, acc, line ++ [x]), ⟨⟨?_, rfl⟩, rfl, Store.le_refl _⟩, ⟨?_, hn, hil, by simp; omega, ?_, hacc⟩, hmu⟩
      · show (bs line).size + ((bs s).extract i (i + 1)).size ≤ _
        rw [bs_ext s i hx, bs_size, bs_size]; simp; omega
      · have e : rS _ = rS (bs (line ++ [x])) := congrArg rS hext
        repeat' first | exact trivial | exact rfl | exact e | refine And.intro ?_ ?_
      · rw [hdr] at hinv
        show parseP n acc (Txt.pieces 10 (line ++ [x] ++ s.drop (i + 1))) = _
        rw [List.append_assoc]
        exact hinv
      · intro h
        rcases List.mem_append.1 h with h | h
        · exact h10 h
        · exact hx10 (List.mem_singleton.1 h).symm
  · have hil : i = s.length := by
      have h : ¬ ((i : Nat) : Int) < (((bs s).size : Nat) : Int) := of_decide_eq_false h
      rw [bs_size] at h; omega
    rw [hil, List.drop_length, List.append_nil, parse_miss h10] at hinv
    by_cases hl : line = []
    · rw [if_pos hl] at hinv
      refine offE (ntT (isE hl)) ?_
      intro p c S' hle hrd hpf
      refine ⟨rfl, ((p, acc.length, c), 0, 0), rfl, ?_, ?_⟩
      · rw [← hinv]
        refine ⟨rfl, ?_, hrd⟩
        rcases hpf with ⟨_, h1, h2⟩ | ⟨g, _, h⟩
        · show acc.length ≤ c
          rw [h1]; exact Nat.zero_le _
        · exact h
      · rw [← hinv]
    · rw [if_neg hl] at hinv
      refine onE (ntF (isN hl)) ⟨rfl, ((none, 0, 0), n, 5), rfl, ?_, ?_⟩
      · rw [← hinv]; exact lst_nil _
      · rw [← hinv]
end Go.Proofs.YtlecojgodkidkaaDoor
