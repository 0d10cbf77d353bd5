/- law63: the reference's numerals, words, numbers. -/
import Derived.Test.YtpeehenohdlfdaaGreatDoorFc
namespace Go.Proofs.YtpeehenohdlfdaaGreatDoor
open Go Go.Vc Go.Sort
set_option maxRecDepth 100000
set_option maxHeartbeats 8000000

theorem dec_one {n : Int} (h0 : 0 ≤ n) (h1 : n < 10) : bs (Lib.itoa n) = bytesOf [48 + n] := by
  unfold bs Lib.itoa
  rw [if_neg (by omega), Lib.decDigits_one (by omega)]
  show _ = ByteArray.empty.push (UInt8.ofNat (48 + n).toNat)
  rw [show (48 + n).toNat = 48 + n.toNat by omega]
  rfl
theorem dec_two {n : Int} (h1 : 10 ≤ n) : Lib.itoa n = Lib.itoa (n / 10) ++ Lib.itoa (n % 10) := by
  unfold Lib.itoa
  rw [if_neg (by omega), if_neg (by omega), if_neg (by omega)]
  rw [Lib.decDigits, dif_neg (by omega), Lib.decDigits_one (i := (n % 10).toNat) (by omega)]
  rw [show (n / 10).toNat = n.toNat / 10 by omega, show (n % 10).toNat = n.toNat % 10 by omega]
theorem dec_neg {n : Int} (h1 : n < 0) : Lib.itoa n = [45] ++ Lib.itoa (-n) := by
  unfold Lib.itoa
  rw [if_pos h1, if_neg (by omega), show (-n).toNat = n.natAbs by omega]
  rfl
theorem itoa_len {n : Int} (h : inI64 n) : (bs (Lib.itoa n)).size ≤ 20 := by rw [bs_size]; exact Txt.itoa_len h.1 h.2
theorem wrap_u8 {x : Int} (h1 : 0 ≤ x) (h2 : x ≤ 255) : IntKind.u8.wrap x = x := by
  unfold IntKind.wrap
  have : (IntKind.u8.bits) = 8 := rfl
  simp [IntKind.signed, this]
  omega
theorem wrap_u64 {x : Int} (h1 : 0 ≤ x) (h2 : x < 18446744073709551616) : IntKind.u64.wrap x = x := by
  unfold IntKind.wrap
  have : (IntKind.u64.bits) = 64 := rfl
  simp [IntKind.signed, this]
  omega
theorem wrap_neg {x : Int} (h1 : -9223372036854775808 ≤ x) (h2 : x < 0) : IntKind.u64.wrap x = x + 18446744073709551616 := by
  unfold IntKind.wrap
  have : (IntKind.u64.bits) = 64 := rfl
  simp [IntKind.signed, this]
  omega
theorem wrap_back {x : Int} (h1 : -9223372036854775808 ≤ x) (h2 : x < 0) : IntKind.u64.wrap (0 - (x + 18446744073709551616)) = -x := by
  unfold IntKind.wrap
  have : (IntKind.u64.bits) = 64 := rfl
  simp [IntKind.signed, this]
  omega
theorem dec_20 {n : Int} (h0 : 0 ≤ n) (h1 : n < 18446744073709551616) : (bs (Lib.itoa n)).size ≤ 20 := by
  rw [bs_size, Txt.itoa_pos (by omega)]
  exact Txt.nDig_le 19 n.toNat (by have : (10 : Nat) ^ (19 + 1) = 100000000000000000000 := by decide
                                   omega)
theorem tens_spec : ∀ (k : Nat) (S : Store) (n : Int), 0 ≤ n → n < 18446744073709551616 → n.natAbs ≤ k → Pure Tryz.prog 91 S [.int .u64 n] (A := Unit) (fun _ => rS (bs (Lib.itoa n))) (fun _ _ => True) := by
  intro k
  induction k with
  | zero =>
    intro S n h0 h1 hk
    obtain rfl : n = 0 := by omega
    refine pure_vc agrees Tryz.func91 rfl rfl (fun S S' q hle h => h) ?_
    exact onT ⟨48, by decide, 48, by decide, rfl, (), by rw [dec_one (by decide) (by decide)]; rfl, trivial⟩
  | succ k ih =>
    intro S n h0 hn hk
    refine pure_vc agrees Tryz.func91 rfl rfl (fun S S' q hle h => h) ?_
    refine And.intro (fun h1 => ?_) (fun h1 => ?_)
    · have h1 : n < 10 := of_decide_eq_true h1
      refine ⟨48 + n, wrap_u64 (by omega) (by omega), 48 + n, wrap_u8 (by omega) (by omega), rfl, (), by rw [dec_one h0 h1]; rfl, trivial⟩
    · have h1 : ¬ n < 10 := of_decide_eq_false h1
      have hq : n.tdiv 10 = n / 10 := Int.tdiv_eq_ediv_of_nonneg h0
      have hr : n.tmod 10 = n % 10 := Int.tmod_eq_emod_of_nonneg h0
      have hs1 := dec_20 (n := n / 10) (by omega) (by omega)
      have hs2 := dec_20 (n := n % 10) (by omega) (by omega)
      refine ⟨by decide, n / 10, by rw [hq]; exact wrap_u64 (by omega) (by omega), ⟨_, rfl, rfl, rfl⟩, .inl ⟨_, _, _, ih S (n / 10) (by omega) (by omega) (by omega), fun S1 x hS1 hx => ?_⟩⟩
      refine ⟨by decide, n % 10, hr, ⟨_, rfl, rfl, rfl⟩, .inl ⟨_, _, _, ih S1 (n % 10) (by omega) (by omega) (by omega), fun S2 x hS2 hx => ?_⟩⟩
      exact ⟨by omega, rfl, (), by rw [dec_two (by omega), ← bs_app]; rfl, trivial⟩
/-- The reference's numeral, behind a space. -/
theorem Tens_spec (S : Store) (n : Int) (hn : inI64 n) : Pure Tryz.prog 60 S [.int .i64 n] (A := Unit) (fun _ => rS (bs (32 :: Lib.itoa n))) (fun _ _ => True) := by
  have hn1 := hn.1
  have hn2 := hn.2
  refine pure_vc agrees Tryz.func60 rfl rfl (fun S S' q hle h => h) ?_
  by_cases h : n < 0
  · have hs := dec_20 (n := -n) (by omega) (by omega)
    refine onE (decide_eq_true h) ⟨n + 18446744073709551616, wrap_neg hn1 h, -n, wrap_back hn1 h, ⟨_, rfl, rfl, rfl⟩, .inl ⟨_, _, _, tens_spec _ S (-n) (by omega) (by omega) (Nat.le_refl _), fun S1 x hS1 hx => ?_⟩⟩
    refine ⟨by show 2 + (bs (Lib.itoa (-n))).size ≤ _; omega, rfl, (), ?_, trivial⟩
    have e : bs (32 :: Lib.itoa n) = bs [32, 45] ++ bs (Lib.itoa (-n)) := by rw [bs_app, dec_neg h]; rfl
    exact congrArg rS e
  · have hs := dec_20 (n := n) (by omega) (by omega)
    refine offE (decide_eq_false h) ⟨n, wrap_u64 (by omega) (by omega), ⟨_, rfl, rfl, rfl⟩, .inl ⟨_, _, _, tens_spec _ S n (by omega) (by omega) (Nat.le_refl _), fun S1 x hS1 hx => ?_⟩⟩
    refine ⟨by show 1 + (bs (Lib.itoa n)).size ≤ _; omega, rfl, (), ?_, trivial⟩
    have e : bs (32 :: Lib.itoa n) = bs [32] ++ bs (Lib.itoa n) := by rw [bs_app]; rfl
    exact congrArg rS e
theorem bs_ext (s : List UInt8) (i : Nat) {x : UInt8} (h : s[i]? = some x) : (bs s).extract i (i + 1) = bs [x] := by
  apply ByteArray.ext
  apply Array.ext'
  rw [Lib.extract_data]
  show (s.drop i).take (i + 1 - i) = [x]
  rw [show i + 1 - i = 1 by omega, List.take_one, List.head?_drop, h]
  rfl
/-- The reference's words. -/
theorem cutw_spec (S : Store) (s : List UInt8) (hs : s.length ≤ 1000000) :
    Pure Tryz.prog 70 S [.string (bs s)] (A := Hd) (fun q => .c (.v (slV q))) (fun S' q => q.2.1 = (wordsR s).length ∧ RowRd S' q.1 .str (wordsR s)) := by
  refine pure_vc agrees Tryz.func70 rfl rfl (fun S S' q hle h => ⟨h.1, h.2.le hle⟩) ?_
  refine ⟨[], [], Nat, List.range' 5 32, fun i => [(4, rI i)], fun i => [.row .str 9 (wordsR (s.take i))], fun _ => S, fun i => i ≤ s.length, fun i => s.length - i, ?_⟩
  refine And.intro (Exists.intro 0 (And.intro (And.intro (And.intro ?_ rfl) (And.intro rfl (Store.le_refl _))) (Nat.zero_le _))) ?_
  · repeat' first | exact trivial | exact rfl | refine And.intro ?_ ?_
  rintro i hi
  have i0 : (0 : Int) ≤ ((i : Nat) : Int) := Int.natCast_nonneg _
  refine And.intro (fun h => ?_) (fun h => ?_)
  · have hil : i < s.length := by
      have h : ((i : Nat) : Int) < (((bs s).size : Nat) : Int) := of_decide_eq_true h
      rw [bs_size] at h; omega
    obtain ⟨x, hx⟩ : ∃ x, s[i]? = some x := ⟨_, List.getElem?_eq_getElem hil⟩
    have htk : s.take (i + 1) = s.take i ++ [x] := by rw [List.take_add_one, hx]; rfl
    obtain ⟨A, z, hA⟩ := Txt.pieces_last 32 (s.take i)
    have hsn := Txt.pieces_snoc 32 x (s.take i) A z hA
    have hW : wordsR (s.take i) = A.map bs ++ [bs z] := by rw [wordsR, hA, List.map_append]; rfl
    have hcnt : A.length ≤ i := by
      have := Txt.pieces_count 32 (s.take i)
      rw [hA, List.length_append, List.length_take] at this
      simp at this; omega
    have hlW : (wordsR (s.take i)).length = A.length + 1 := by rw [hW]; simp
    have hsub : IntKind.i64.wrap (((wordsR (s.take i)).length : Int) - 1) = (A.length : Int) := by rw [hlW, wrap_i64 (by omega) (by omega)]; omega
    refine ⟨i0, x, by rw [bs_get]; exact hx, ?_⟩
    by_cases hx32 : x = 32
    · refine onE (by rw [hx32]; rfl) ?_
      rw [if_pos hx32] at hsn
      have hW2 : wordsR (s.take (i + 1)) = wordsR (s.take i) ++ [bs []] := by rw [hW, htk, wordsR, hsn]; simp
      refine ⟨[bs []], ⟨rfl, rfl⟩, fun _ _ => trivial, by show ((wordsR (s.take i)).length + 1) * 16 ≤ 140737488355328; omega, ((i + 1 : Nat) : Int), wrap_i64 (by omega) (by omega), i + 1, ⟨⟨?_, rfl⟩, ?_, Store.le_refl _⟩, hil, by show s.length - (i + 1) < s.length - i; omega⟩
      · repeat' first | exact trivial | exact rfl | refine And.intro ?_ ?_
      · show [Res.row .str 9 (wordsR (s.take i) ++ [bs []])] = [Res.row .str 9 (wordsR (s.take (i + 1)))]
        rw [hW2]
    · refine offE (by
        refine beq_eq_false_iff_ne.2 fun e => hx32 ?_
        have e : x.toNat = 32 := by have e : (x.toNat : Int) = 32 := e; omega
        exact UInt8.toNat_inj.1 e) ?_
      rw [if_neg hx32] at hsn
      refine ⟨or70_7, [0], oF70_7, by kernel_rfl, ?_⟩
      have hz : (wordsR (s.take i))[A.length]? = some (bs z) := by rw [hW, List.getElem?_append_right (by simp)]; simp
      refine ⟨((i + 1 : Nat) : Int), wrap_i64 (by omega) (by omega), (A.length : Int), hsub, (A.length : Int), hsub, by omega, by rw [hlW]; omega, bs z, hz, i0, by omega, by show i ≤ i + 1; omega, by show i + 1 ≤ (bs s).size; rw [bs_size]; exact hil, ?_⟩
      have hext : bs z ++ (bs s).extract i (i + 1) = bs (z ++ [x]) := by rw [bs_ext s i hx, bs_app]
      have hzl : z.length ≤ s.length := by
        have := Txt.pieces_len (c := 32) (s := s.take i) (w := z) (by rw [hA]; simp)
        rw [List.length_take] at this; omega
      have hW2 : wordsR (s.take (i + 1)) = (wordsR (s.take i)).set A.length (bs (z ++ [x])) := by
        rw [hW, htk, wordsR, hsn, List.set_append_right _ _ (by simp)]; simp
      refine ⟨?_, by omega, by rw [hlW]; omega, bs z, bs z ++ (bs s).extract i (i + 1), hz, trivial, rfl, Nat.le_refl 1, ((i + 1 : Nat) : Int), wrap_i64 (by omega) (by omega), i + 1, ⟨⟨?_, rfl⟩, ?_, Store.le_refl _⟩, hil, by show s.length - (i + 1) < s.length - i; omega⟩
      · show (bs z).size + ((bs s).extract i (i + 1)).size ≤ _
        rw [bs_ext s i hx, bs_size, bs_size]; simp; omega
      · repeat' first | exact trivial | exact rfl | refine And.intro ?_ ?_
      · show [Res.row .str 9 ((wordsR (s.take i)).set A.length (bs z ++ (bs s).extract i (i + 1)))] = [Res.row .str 9 (wordsR (s.take (i + 1)))]
        rw [hW2, hext]
  · have hil : i = s.length := by
      have h : ¬ ((i : Nat) : Int) < (((bs s).size : Nat) : Int) := of_decide_eq_false h
      rw [bs_size] at h; omega
    subst hil
    intro p c S' hle hrd hpf
    rw [List.take_length] at hrd
    refine ⟨rfl, (p, (wordsR s).length, c), ?_, rfl, hrd⟩
    rw [List.take_length]
    rfl
end Go.Proofs.YtpeehenohdlfdaaGreatDoor
