/- law09: the texts of words: the program's and the reference's. -/
import Derived.Test.YtapblcfbmaikjaaGreatDoorFq
import Derived.Test.YtapblcfbmaikjaaGreatDoorLs
namespace Go.Proofs.YtapblcfbmaikjaaGreatDoor
open Go Go.Vc Go.Sort Go.RowKit
set_option maxRecDepth 100000
set_option maxHeartbeats 4000000

@[reducible] def rII (a b : Int) : SV := .tup [(false, [.v (.int .i64 a)]), (false, [.v (.int .i64 b)])]
@[reducible] def rUE (a b : Int) : SV := .tup [(false, [.v (.int .u32 a)]), (false, [.v (.int .i64 b)])]
theorem ref_bad (S : Store) (a b : Int) (h : a < 1 ∨ 72 < a ∨ b < 1 ∨ 16777215 < b) : Pure Tryz.prog 134 S [.int .i64 a, .int .i64 b] (A := Unit) (fun _ => rUE 0 3) (fun _ _ => True) := by
  refine pure_vc agrees Tryz.func134 rfl rfl (fun S S' q hle h => h) ?_
  by_cases h1 : a < 1
  · refine onE (decide_eq_true h1) ?_
    exact onT (onT (onT ⟨rfl, (), rfl, trivial⟩))
  refine offE (decide_eq_false h1) ?_
  by_cases h2 : a > 72
  · refine onE (decide_eq_true h2) ?_
    exact onT (onT ⟨rfl, (), rfl, trivial⟩)
  refine offE (decide_eq_false h2) ?_
  by_cases h3 : b < 1
  · refine onE (decide_eq_true h3) ?_
    exact onT ⟨rfl, (), rfl, trivial⟩
  refine offE (decide_eq_false h3) ?_
  refine onE (decide_eq_true (show b > 16777215 by omega)) ?_
  exact ⟨rfl, (), rfl, trivial⟩
theorem ref_ok (S : Store) (a b : Int) (h : 1 ≤ a ∧ a ≤ 72 ∧ 1 ≤ b ∧ b ≤ 16777215) : Pure Tryz.prog 134 S [.int .i64 a, .int .i64 b] (A := Int) (fun x => rUE x 0) (fun _ _ => True) := by
  refine pure_vc agrees Tryz.func134 rfl rfl (fun S S' q hle h => h) ?_
  refine offE (decide_eq_false (show ¬ a < 1 by omega)) ?_
  refine offE (decide_eq_false (show ¬ a > 72 by omega)) ?_
  refine offE (decide_eq_false (show ¬ b < 1 by omega)) ?_
  refine offE (decide_eq_false (show ¬ b > 16777215 by omega)) ?_
  exact ⟨_, rfl, by decide, _, rfl, _, rfl, _, rfl, rfl, _, rfl, trivial⟩
/-- Who owns a word, and its number. -/
def whoR (r : Int) : Int := if Li.held r then Li.whoOf r else 0
def seqR (r : Int) : Int := if Li.held r then Li.seqOf r else 0
theorem who_in {r : Int} (hr : inU32 r) : 0 ≤ Li.whoOf r ∧ Li.whoOf r ≤ 255 ∧ 0 ≤ Li.seqOf r ∧ Li.seqOf r ≤ 16777215 := by
  obtain ⟨h1, h2⟩ := hr
  unfold Li.whoOf Li.seqOf; omega
theorem and24 {r : Int} (hr : inU32 r) : bitAnd .u32 r 16777215 = Li.seqOf r := by
  obtain ⟨h1, h2⟩ := hr
  obtain ⟨n, rfl⟩ : ∃ n : Nat, r = (n : Int) := ⟨r.toNat, by omega⟩
  unfold bitAnd Li.seqOf
  have e1 : (BitVec.ofInt IntKind.u32.bits ((n : Nat) : Int)).toNat = n := by
    rw [BitVec.ofInt_natCast, BitVec.toNat_ofNat]
    exact Nat.mod_eq_of_lt (by show n < 4294967296; omega)
  have e2 : (BitVec.ofInt IntKind.u32.bits 16777215).toNat = 2 ^ 24 - 1 := rfl
  rw [BitVec.toNat_and, e1, e2, Nat.and_two_pow_sub_one_eq_mod]
  have : IntKind.u32.wrap (((n % 2 ^ 24 : Nat) : Int)) = ((n % 2 ^ 24 : Nat) : Int) := by
    rw [IntKind.wrap_u32]; omega
  rw [this]; omega
theorem held_iff {r : Int} : Li.held r = true ↔ 1 ≤ Li.whoOf r ∧ Li.whoOf r ≤ 72 ∧ 1 ≤ Li.seqOf r := by
  unfold Li.held; simp [and_assoc]
theorem who_spec (S : Store) (r : Int) (hr : inU32 r) : Pure Tryz.prog 93 S [.int .u32 r] (A := Unit) (fun _ => rII (whoR r) (seqR r)) (fun _ _ => True) := by
  obtain ⟨w1, w2, w3, w4⟩ := who_in hr
  have hw : Int.fdiv r (2 ^ (min (Int.toNat 24) 32)) = Li.whoOf r := by
    rw [Int.fdiv_eq_ediv_of_nonneg _ (by decide)]; rfl
  have g1 : IntKind.i64.wrap (Li.whoOf r) = Li.whoOf r := wrap_i64 (by omega) (by omega)
  have g2 : IntKind.i64.wrap (Li.seqOf r) = Li.seqOf r := wrap_i64 (by omega) (by omega)
  have ha := and24 hr
  obtain ⟨a, hA⟩ : ∃ a, a = Li.whoOf r := ⟨_, rfl⟩
  obtain ⟨b, hB⟩ : ∃ b, b = Li.seqOf r := ⟨_, rfl⟩
  refine pure_vc agrees Tryz.func93 rfl rfl (fun S S' q hle h => h) ?_
  refine ⟨by decide, a, hw.trans hA.symm, a, by rw [hA]; exact g1, b, ha.trans hB.symm, b, by rw [hB]; exact g2, ?_⟩
  by_cases h : Li.held r = true
  · have h' := held_iff.1 h
    rw [← hA, ← hB] at h'
    refine ⟨⟨_, rfl, rfl, rfl⟩, .inl ⟨_, _, _, ref_ok S a b ⟨h'.1, h'.2.1, h'.2.2, by omega⟩, fun S1 x hS1 _ => offE rfl ⟨rfl, (), ?_, trivial⟩⟩⟩
    show rII (whoR r) (seqR r) = rII a b
    unfold whoR seqR
    rw [if_pos h, if_pos h, hA, hB]
  · have h' : ¬ (1 ≤ a ∧ a ≤ 72 ∧ 1 ≤ b) := fun q => h (held_iff.2 (by rw [← hA, ← hB]; exact q))
    refine ⟨⟨_, rfl, rfl, rfl⟩, .inl ⟨_, _, _, ref_bad S a b (by omega), fun S1 x hS1 _ => onE rfl ⟨rfl, (), ?_, trivial⟩⟩⟩
    show rII (whoR r) (seqR r) = rII 0 0
    unfold whoR seqR
    rw [if_neg h, if_neg h]
def kindR (r : Int) : Int := if r = 0 then 0 else if Li.held r then 1 else 2
theorem kind_spec (S : Store) (w : Li.Wd) (hw : okW w) : Pure Tryz.prog 90 S [vW w] (A := Unit) (fun _ => rI (kindR w.2.2)) (fun _ _ => True) := by
  obtain ⟨w1, w2, r⟩ := w
  have hwho := who_spec S r hw.2.2
  have hin := who_in hw.2.2
  refine pure_vc agrees Tryz.func90 rfl rfl (fun S S' q hle h => h) ?_
  refine ⟨⟨_, rfl, rfl, rfl⟩, .inl ⟨_, _, _, hwho, fun S1 _ hS1 _ => ?_⟩⟩
  by_cases h0 : r = 0
  · refine onE (beq_iff_eq.2 h0) ⟨rfl, (), ?_, trivial⟩
    show rI (kindR r) = rI 0
    unfold kindR; rw [if_pos h0]
  refine offE (beq_eq_false_iff_ne.2 h0) ?_
  by_cases h : Li.held r = true
  · refine onE (decide_eq_true (show whoR r > 0 by unfold whoR; rw [if_pos h]; have := held_iff.1 h; omega)) ⟨rfl, (), ?_, trivial⟩
    show rI (kindR r) = rI 1
    unfold kindR; rw [if_neg h0, if_pos h]
  · refine offE (decide_eq_false (show ¬ whoR r > 0 by unfold whoR; rw [if_neg h]; omega)) ⟨rfl, (), ?_, trivial⟩
    show rI (kindR r) = rI 2
    unfold kindR; rw [if_neg h0, if_neg h]
theorem itoa_size {n : Int} (h : inI64 n) : (bs (Lib.itoa n)).size ≤ 20 := by rw [bs_size]; exact Txt.itoa_len h.1 h.2
theorem text_len {w : Li.Wd} (hw : okW w) : (Li.textW w).length ≤ 90 := by
  have h1 := Txt.itoa_len hw.1.1 hw.1.2
  have h2 : (Lib.itoa w.2.1).length ≤ 20 := Txt.itoa_len (by have := hw.2.1.1; omega) (by have := hw.2.1.2; omega)
  have hr := who_in hw.2.2
  have h3 : (Lib.itoa (Li.whoOf w.2.2)).length ≤ 20 := Txt.itoa_len (by omega) (by omega)
  have h4 : (Lib.itoa (Li.seqOf w.2.2)).length ≤ 20 := Txt.itoa_len (by omega) (by omega)
  unfold Li.textW
  split
  · exact Nat.zero_le _
  · rw [List.length_append, List.length_append]
    have a : (if w.2.1 ≠ 0 ∨ w.2.2 ≠ 0 then 46 :: Lib.itoa w.2.1 else []).length ≤ 21 := by split <;> simp <;> omega
    have b : (if w.2.2 ≠ 0 then 35 :: Lib.itoa (Li.whoOf w.2.2) ++ 58 :: Lib.itoa (Li.seqOf w.2.2) else []).length ≤ 44 := by split <;> simp <;> omega
    omega
theorem text_spec (S : Store) (hL : Lt S) (w : Li.Wd) (hw : okW w) : Pure Tryz.prog 62 S [vW w] (A := Unit) (fun _ => rS (bs (Li.textW w))) (fun _ _ => True) := by
  have hki := fun (S' : Store) => kind_spec S' w hw
  obtain ⟨v, u, r⟩ := w
  obtain ⟨hv, hu, hr⟩ := hw
  have hv : inI64 v := hv
  have hu : inU32 u := hu
  have hr : inU32 r := hr
  have hin := who_in hr
  refine pure_vc agrees Tryz.func62 rfl rfl (fun S S' q hle h => h) ?_
  refine ⟨⟨_, rfl, rfl, rfl⟩, .inl ⟨_, _, _, hki S, fun S1 _ hS1 _ => ?_⟩⟩
  have k0 : kindR r = 2 ↔ r ≠ 0 ∧ Li.held r = false := by
    unfold kindR
    by_cases h0 : r = 0
    · rw [if_pos h0]; simp [h0]
    · rw [if_neg h0]; by_cases h : Li.held r = true
      · rw [if_pos h]; simp [h]
      · rw [if_neg h]; simp [h0, Bool.not_eq_true _ ▸ h]
  by_cases hb : kindR r = 2
  · refine onE (beq_iff_eq.2 hb) ⟨rfl, (), ?_, trivial⟩
    have : Li.textW (v, u, r) = [] := by unfold Li.textW; rw [if_pos (k0.1 hb)]
    rw [this]; rfl
  refine offE (beq_eq_false_iff_ne.2 hb) ?_
  have hnb : ¬ (r ≠ 0 ∧ Li.held r = false) := fun q => hb (k0.2 q)
  have hheld : r ≠ 0 → Li.held r = true := fun q => by
    cases h : Li.held r with
    | true => rfl
    | false => exact absurd ⟨q, h⟩ hnb
  refine ⟨⟨_, rfl, rfl, rfl⟩, .inl ⟨_, _, _, format_spec S1 (hL.le hS1) v hv, fun S2 _ hS2 _ => ?_⟩⟩
  have hS02 := Store.le_trans hS1 hS2
  have hL2 := hL.le hS02
  have l1 : (Lib.itoa v).length ≤ 20 := Txt.itoa_len hv.1 hv.2
  have l2 : (Lib.itoa u).length ≤ 20 := Txt.itoa_len (by have := hu.1; omega) (by have := hu.2; omega)
  have l3 : (Lib.itoa (Li.whoOf r)).length ≤ 20 := Txt.itoa_len (by omega) (by omega)
  have l4 : (Lib.itoa (Li.seqOf r)).length ≤ 20 := Txt.itoa_len (by omega) (by omega)
  have c46 : (ByteArray.mk #[46]).size = 1 := rfl
  have c35 : (ByteArray.mk #[35]).size = 1 := rfl
  have c58 : (ByteArray.mk #[58]).size = 1 := rfl
  have wu : IntKind.u64.wrap u = u := by rw [IntKind.wrap_u64]; have := hu.1; have := hu.2; omega
  by_cases hr0 : r = 0
  · have k1 : (kindR r == 1) = false := by unfold kindR; rw [if_pos hr0]; rfl
    by_cases hu0 : u = 0
    · refine offE (bne_eq_false_iff_eq.2 hu0) (offE k1 (offE k1 ⟨rfl, (), ?_, trivial⟩))
      show rS (bs (Li.textW (v, u, r))) = rS (bs (Lib.itoa v))
      unfold Li.textW
      rw [if_neg hnb]
      show rS (bs (Lib.itoa v ++ (if u ≠ 0 ∨ r ≠ 0 then _ else []) ++ (if r ≠ 0 then _ else []))) = _
      rw [if_neg (by simp [hu0, hr0]), if_neg (by simp [hr0]), List.append_nil, List.append_nil]
    · refine onE (bne_iff_ne.2 hu0) (onT ⟨u, wu, ⟨_, rfl, rfl, rfl⟩, .inl ⟨_, _, _, formatU_spec S2 hL2 u hu, fun S3 _ hS3 _ => ?_⟩⟩)
      refine ⟨by rw [c46, bs_size]; omega, by rw [bs_size, ByteArray.size_append, c46, bs_size]; omega, offE k1 ⟨rfl, (), ?_, trivial⟩⟩
      show rS (bs (Li.textW (v, u, r))) = rS (bs (Lib.itoa v) ++ (bs [46] ++ bs (Lib.itoa u)))
      unfold Li.textW
      rw [if_neg hnb, bs_app, bs_app]
      show rS (bs (Lib.itoa v ++ (if u ≠ 0 ∨ r ≠ 0 then _ else []) ++ (if r ≠ 0 then _ else []))) = _
      rw [if_pos (.inl hu0), if_neg (by simp [hr0]), List.append_nil]
      rfl
  · have hh := hheld hr0
    have k1 : (kindR r == 1) = true := by unfold kindR; rw [if_neg hr0, if_pos hh]; rfl
    have hwho := fun (S' : Store) => who_spec S' r hr
    have ew : whoR r = Li.whoOf r := if_pos hh
    have es : seqR r = Li.seqOf r := if_pos hh
    simp only [ew, es] at hwho
    have tail : ∀ (S3 : Store), S2.le S3 → True := fun _ _ => trivial
    have e : Li.textW (v, u, r) = Lib.itoa v ++ ([46] ++ Lib.itoa u) ++ ([35] ++ Lib.itoa (Li.whoOf r) ++ [58] ++ Lib.itoa (Li.seqOf r)) := by
      unfold Li.textW
      rw [if_neg hnb]
      show Lib.itoa v ++ (if u ≠ 0 ∨ r ≠ 0 then _ else []) ++ (if r ≠ 0 then _ else []) = _
      rw [if_pos (.inr hr0), if_pos hr0]
      simp
    by_cases hu0 : u = 0
    · refine offE (bne_eq_false_iff_eq.2 hu0) (onE k1 ⟨u, wu, ⟨_, rfl, rfl, rfl⟩, .inl ⟨_, _, _, formatU_spec S2 hL2 u hu, fun S3 _ hS3 _ => ?_⟩⟩)
      refine ⟨by rw [c46, bs_size]; omega, by rw [bs_size, ByteArray.size_append, c46, bs_size]; omega, onE k1 ⟨⟨_, rfl, rfl, rfl⟩, .inl ⟨_, _, _, hwho S3, fun S4 _ hS4 _ => ⟨⟨_, rfl, rfl, rfl⟩, .inl ⟨_, _, _, itoa_spec S4 ((hL2.le hS3).le hS4) (Li.whoOf r) ⟨by omega, by omega⟩, fun S5 _ hS5 _ => ?_⟩⟩⟩⟩⟩
      refine ⟨by rw [c35, bs_size]; omega, by rw [ByteArray.size_append, c35, c58, bs_size]; omega, ⟨_, rfl, rfl, rfl⟩, .inl ⟨_, _, _, itoa_spec S5 (((hL2.le hS3).le hS4).le hS5) (Li.seqOf r) ⟨by omega, by omega⟩, fun S6 _ hS6 _ => ?_⟩⟩
      refine ⟨by rw [ByteArray.size_append, ByteArray.size_append, c35, c58, bs_size, bs_size]; omega, by simp only [ByteArray.size_append, c46, c35, c58, bs_size]; omega, rfl, (), ?_, trivial⟩
      show rS (bs (Li.textW (v, u, r))) = rS ((bs (Lib.itoa v) ++ (bs [46] ++ bs (Lib.itoa u))) ++ (bs [35] ++ bs (Lib.itoa (Li.whoOf r)) ++ bs [58] ++ bs (Lib.itoa (Li.seqOf r))))
      rw [e, bs_app, bs_app, bs_app, bs_app, bs_app, bs_app]
    · refine onE (bne_iff_ne.2 hu0) (onT ⟨u, wu, ⟨_, rfl, rfl, rfl⟩, .inl ⟨_, _, _, formatU_spec S2 hL2 u hu, fun S3 _ hS3 _ => ?_⟩⟩)
      refine ⟨by rw [c46, bs_size]; omega, by rw [bs_size, ByteArray.size_append, c46, bs_size]; omega, onE k1 ⟨⟨_, rfl, rfl, rfl⟩, .inl ⟨_, _, _, hwho S3, fun S4 _ hS4 _ => ⟨⟨_, rfl, rfl, rfl⟩, .inl ⟨_, _, _, itoa_spec S4 ((hL2.le hS3).le hS4) (Li.whoOf r) ⟨by omega, by omega⟩, fun S5 _ hS5 _ => ?_⟩⟩⟩⟩⟩
      refine ⟨by rw [c35, bs_size]; omega, by rw [ByteArray.size_append, c35, c58, bs_size]; omega, ⟨_, rfl, rfl, rfl⟩, .inl ⟨_, _, _, itoa_spec S5 (((hL2.le hS3).le hS4).le hS5) (Li.seqOf r) ⟨by omega, by omega⟩, fun S6 _ hS6 _ => ?_⟩⟩
      refine ⟨by rw [ByteArray.size_append, ByteArray.size_append, c35, c58, bs_size, bs_size]; omega, by simp only [ByteArray.size_append, c46, c35, c58, bs_size]; omega, rfl, (), ?_, trivial⟩
      show rS (bs (Li.textW (v, u, r))) = rS ((bs (Lib.itoa v) ++ (bs [46] ++ bs (Lib.itoa u))) ++ (bs [35] ++ bs (Lib.itoa (Li.whoOf r)) ++ bs [58] ++ bs (Lib.itoa (Li.seqOf r))))
      rw [e, bs_app, bs_app, bs_app, bs_app, bs_app, bs_app]
/-! The reference's texts. -/
theorem rwho_spec (S : Store) (r : Int) (hr : inU32 r) : Pure Tryz.prog 114 S [.int .u32 r] (A := Unit) (fun _ => rII (whoR r) (seqR r)) (fun _ _ => True) := by
  obtain ⟨w1, w2, w3, w4⟩ := who_in hr
  have g1 : IntKind.i64.wrap (Li.whoOf r) = Li.whoOf r := wrap_i64 (by omega) (by omega)
  have g2 : IntKind.i64.wrap (Li.seqOf r) = Li.seqOf r := wrap_i64 (by omega) (by omega)
  have d1 : IntKind.u32.wrap (Int.tdiv r 16777216) = Li.whoOf r := by
    rw [Int.tdiv_eq_ediv_of_nonneg hr.1, IntKind.wrap_u32]
    show Li.whoOf r % _ = _
    omega
  have d2 : Int.tmod r 16777216 = Li.seqOf r := Int.tmod_eq_emod_of_nonneg hr.1
  obtain ⟨a, hA⟩ : ∃ a, a = Li.whoOf r := ⟨_, rfl⟩
  obtain ⟨b, hB⟩ : ∃ b, b = Li.seqOf r := ⟨_, rfl⟩
  refine pure_vc agrees Tryz.func114 rfl rfl (fun S S' q hle h => h) ?_
  refine ⟨by decide, a, d1.trans hA.symm, a, by rw [hA]; exact g1, by decide, b, d2.trans hB.symm, b, by rw [hB]; exact g2, ?_⟩
  have hhe : Li.held r = true ↔ 1 ≤ a ∧ a ≤ 72 ∧ 1 ≤ b := by rw [held_iff, hA, hB]
  have bad : Li.held r = false → rII (whoR r) (seqR r) = rII 0 0 := fun h => by unfold whoR seqR; rw [h]; rfl
  have nh : ¬ (1 ≤ a ∧ a ≤ 72 ∧ 1 ≤ b) → Li.held r = false := fun q => Bool.eq_false_iff.2 fun h => q (hhe.1 h)
  by_cases h1 : a < 1
  · refine onE (decide_eq_true h1) ?_
    exact onT (onT ⟨rfl, (), bad (nh (by omega)), trivial⟩)
  refine offE (decide_eq_false h1) ?_
  by_cases h2 : a > 72
  · refine onE (decide_eq_true h2) ?_
    exact onT ⟨rfl, (), bad (nh (by omega)), trivial⟩
  refine offE (decide_eq_false h2) ?_
  by_cases h3 : b < 1
  · refine onE (decide_eq_true h3) ?_
    exact ⟨rfl, (), bad (nh (by omega)), trivial⟩
  refine offE (decide_eq_false h3) ⟨rfl, (), ?_, trivial⟩
  have h := hhe.2 ⟨by omega, by omega, by omega⟩
  show rII (whoR r) (seqR r) = rII a b
  unfold whoR seqR
  rw [if_pos h, if_pos h, hA, hB]
theorem dig_one (d : Nat) (h : d < 10) : bytesOf [(48 + (d : Int))] = bs [UInt8.ofNat (48 + d)] := by
  have : (48 + (d : Int)).toNat = 48 + d := by omega
  show ByteArray.push ByteArray.empty (UInt8.ofNat ((48 + (d : Int)).toNat)) = _
  rw [this]; rfl
theorem num_nat : ∀ (f : Nat) (S : Store) (u : Nat), u < f → u ≤ 9223372036854775807 → Pure Tryz.prog 115 S [.int .i64 (u : Int)] (A := Unit) (fun _ => rS (bs (Lib.decDigits u))) (fun _ _ => True)
  | 0, _, _, h, _ => absurd h (Nat.not_lt_zero _)
  | f + 1, S, u, hf, hu => by
    refine pure_vc agrees Tryz.func115 rfl rfl (fun S S' q hle h => h) ?_
    refine offE (beq_eq_false_iff_ne.2 (show ¬ (u : Int) = -9223372036854775808 by omega)) ?_
    refine offE (decide_eq_false (show ¬ (u : Int) < 0 by omega)) ?_
    by_cases h10 : u < 10
    · refine onE (decide_eq_true (show (u : Int) < 10 by omega)) ?_
      refine ⟨48 + (u : Int), wrap_i64 (by omega) (by omega), 48 + (u : Int), by rw [IntKind.wrap_u8]; omega, rfl, (), ?_, trivial⟩
      show rS (bs (Lib.decDigits u)) = rS (bytesOf [48 + (u : Int)])
      rw [dig_one u h10, Lib.decDigits_one h10]
    · refine offE (decide_eq_false (show ¬ (u : Int) < 10 by omega)) ?_
      have ih := fun (S' : Store) => num_nat f S' (u / 10) (by omega) (by omega)
      have d1 : IntKind.i64.wrap (Int.tdiv (u : Int) 10) = ((u / 10 : Nat) : Int) := by
        rw [Int.tdiv_eq_ediv_of_nonneg (by omega), wrap_i64 (by omega) (by omega)]; omega
      have d2 : Int.tmod (u : Int) 10 = ((u % 10 : Nat) : Int) := by
        rw [Int.tmod_eq_emod_of_nonneg (by omega)]; omega
      have hm : u % 10 < 10 := Nat.mod_lt _ (by decide)
      have e : Lib.decDigits u = Lib.decDigits (u / 10) ++ [UInt8.ofNat (48 + u % 10)] := by rw [Lib.decDigits, dif_neg h10]
      have hl : (Lib.decDigits (u / 10)).length ≤ 20 := by
        have := Txt.itoa_len (n := ((u / 10 : Nat) : Int)) (by omega) (by omega)
        rw [Lib.itoa_nonneg] at this; exact this
      refine ⟨or115_7, [], oF115_7, by kernel_rfl, ?_⟩
      refine ⟨by decide, _, d1, by decide, _, d2, 48 + ((u % 10 : Nat) : Int), wrap_i64 (by omega) (by omega), 48 + ((u % 10 : Nat) : Int), by rw [IntKind.wrap_u8]; omega, ?_⟩
      have hsz : (bs (Lib.decDigits (u / 10))).size + (bytesOf [48 + ((u % 10 : Nat) : Int)]).size ≤ 9223372036854775807 := by
        rw [dig_one _ hm, bs_size, bs_size]; simp; omega
      have fin : rS (bs (Lib.decDigits u)) = rS (bs (Lib.decDigits (u / 10)) ++ bytesOf [48 + ((u % 10 : Nat) : Int)]) := by
        rw [dig_one _ hm, bs_app, e]
      refine And.intro ⟨⟨_, rfl, rfl, rfl⟩, .inl ⟨_, _, _, ih S, fun S1 _ hS1 _ => ⟨hsz, rfl, (), fin, trivial⟩⟩⟩ (And.intro ⟨⟨_, rfl, rfl, rfl⟩, .inl ⟨_, _, _, ih S, fun S1 _ hS1 _ => ⟨hsz, rfl, (), fin, trivial⟩⟩⟩ trivial)
theorem num_spec (S : Store) (n : Int) (hn : inI64 n) : Pure Tryz.prog 115 S [.int .i64 n] (A := Unit) (fun _ => rS (bs (Lib.itoa n))) (fun _ _ => True) := by
  obtain ⟨h1, h2⟩ := hn
  by_cases h0 : 0 ≤ n
  · obtain ⟨u, rfl⟩ : ∃ u : Nat, n = u := ⟨n.toNat, by omega⟩
    rw [Lib.itoa_nonneg]
    exact num_nat (u + 1) S u (Nat.lt_succ_self _) (by omega)
  by_cases hm : n = -9223372036854775808
  · subst hm
    refine pure_vc agrees Tryz.func115 rfl rfl (fun S S' q hle h => h) ?_
    refine onE rfl ⟨rfl, (), ?_, trivial⟩
    show rS (bs (Lib.itoa (-9223372036854775808))) = rS (bs [45, 57, 50, 50, 51, 51, 55, 50, 48, 51, 54, 56, 53, 52, 55, 55, 53, 56, 48, 56])
    rw [show Lib.itoa (-9223372036854775808) = [45, 57, 50, 50, 51, 51, 55, 50, 48, 51, 54, 56, 53, 52, 55, 55, 53, 56, 48, 56] from by decide +kernel]
  obtain ⟨u, hu⟩ : ∃ u : Nat, n = -(u : Int) := ⟨n.natAbs, by omega⟩
  have hb := num_nat (u + 1) S u (Nat.lt_succ_self _) (by omega)
  have hl : (Lib.decDigits u).length ≤ 20 := by
    have := Txt.itoa_len (n := ((u : Nat) : Int)) (by omega) (by omega)
    rw [Lib.itoa_nonneg] at this; exact this
  refine pure_vc agrees Tryz.func115 rfl rfl (fun S S' q hle h => h) ?_
  refine offE (beq_eq_false_iff_ne.2 hm) ?_
  refine onE (decide_eq_true (show n < 0 by omega)) ?_
  refine ⟨(u : Int), by rw [wrap_i64 (by omega) (by omega)]; omega, ⟨_, rfl, rfl, rfl⟩, .inl ⟨_, _, _, hb, fun S1 _ hS1 _ => ⟨?_, rfl, (), ?_, trivial⟩⟩⟩
  · rw [bs_size]; show 1 + (Lib.decDigits u).length ≤ _; omega
  · show rS (bs (Lib.itoa n)) = rS (bs [45] ++ bs (Lib.decDigits u))
    rw [bs_app, hu, Lib.itoa_neg u (by omega)]; rfl
theorem rtext_spec (S : Store) (w : Li.Wd) (hw : okW w) : Pure Tryz.prog 74 S [vW w] (A := Unit) (fun _ => rS (bs (Li.textW w))) (fun _ _ => True) := by
  obtain ⟨v, u, r⟩ := w
  obtain ⟨hv, hu, hr⟩ := hw
  have hv : inI64 v := hv
  have hu : inU32 u := hu
  have hr : inU32 r := hr
  have hin := who_in hr
  have hwho := rwho_spec S r hr
  refine pure_vc agrees Tryz.func74 rfl rfl (fun S S' q hle h => h) ?_
  refine ⟨⟨_, rfl, rfl, rfl⟩, .inl ⟨_, _, _, hwho, fun S1 _ hS1 _ => ?_⟩⟩
  have l1 : (Lib.itoa v).length ≤ 20 := Txt.itoa_len hv.1 hv.2
  have l2 : (Lib.itoa u).length ≤ 20 := Txt.itoa_len (by have := hu.1; omega) (by have := hu.2; omega)
  have l3 : (Lib.itoa (Li.whoOf r)).length ≤ 20 := Txt.itoa_len (by omega) (by omega)
  have l4 : (Lib.itoa (Li.seqOf r)).length ≤ 20 := Txt.itoa_len (by omega) (by omega)
  have c46 : (ByteArray.mk #[46]).size = 1 := rfl
  have c35 : (ByteArray.mk #[35]).size = 1 := rfl
  have c58 : (ByteArray.mk #[58]).size = 1 := rfl
  have wu : IntKind.i64.wrap u = u := wrap_i64 (by have := hu.1; omega) (by have := hu.2; omega)
  have hu64 : inI64 u := ⟨by have := hu.1; omega, by have := hu.2; omega⟩
  by_cases hr0 : r = 0
  · refine offE (bne_eq_false_iff_eq.2 hr0) ?_
    refine onF ⟨⟨_, rfl, rfl, rfl⟩, .inl ⟨_, _, _, num_spec S1 v hv, fun S2 _ hS2 _ => ?_⟩⟩
    have hnb : ¬ (r ≠ 0 ∧ Li.held r = false) := fun q => q.1 hr0
    by_cases hu0 : u = 0
    · refine offE (bne_eq_false_iff_eq.2 hu0) (offE (bne_eq_false_iff_eq.2 hr0) (offE (bne_eq_false_iff_eq.2 hr0) ⟨rfl, (), ?_, trivial⟩))
      show rS (bs (Li.textW (v, u, r))) = rS (bs (Lib.itoa v))
      unfold Li.textW
      rw [if_neg hnb]
      show rS (bs (Lib.itoa v ++ (if u ≠ 0 ∨ r ≠ 0 then _ else []) ++ (if r ≠ 0 then _ else []))) = _
      rw [if_neg (by simp [hu0, hr0]), if_neg (by simp [hr0]), List.append_nil, List.append_nil]
    · refine onE (bne_iff_ne.2 hu0) (onT ⟨by rw [c46, bs_size]; omega, u, wu, ⟨_, rfl, rfl, rfl⟩, .inl ⟨_, _, _, num_spec S2 u hu64, fun S3 _ hS3 _ => ?_⟩⟩)
      refine ⟨by rw [ByteArray.size_append, c46, bs_size, bs_size]; omega, offE (bne_eq_false_iff_eq.2 hr0) ⟨rfl, (), ?_, trivial⟩⟩
      show rS (bs (Li.textW (v, u, r))) = rS ((bs (Lib.itoa v) ++ bs [46]) ++ bs (Lib.itoa u))
      unfold Li.textW
      rw [if_neg hnb, bs_app, bs_app]
      show rS (bs (Lib.itoa v ++ (if u ≠ 0 ∨ r ≠ 0 then _ else []) ++ (if r ≠ 0 then _ else []))) = _
      rw [if_pos (.inl hu0), if_neg (by simp [hr0]), List.append_nil]
      simp
  · refine onE (bne_iff_ne.2 hr0) ?_
    by_cases hh : Li.held r = true
    · have ew : whoR r = Li.whoOf r := if_pos hh
      have es : seqR r = Li.seqOf r := if_pos hh
      have hh' := held_iff.1 hh
      rw [ew, es]
      refine offE (beq_eq_false_iff_ne.2 (show ¬ Li.whoOf r = 0 by omega)) ?_
      have e : Li.textW (v, u, r) = Lib.itoa v ++ [46] ++ Lib.itoa u ++ [35] ++ Lib.itoa (Li.whoOf r) ++ [58] ++ Lib.itoa (Li.seqOf r) := by
        unfold Li.textW
        rw [if_neg (fun q => by rw [hh] at q; cases q.2)]
        show Lib.itoa v ++ (if u ≠ 0 ∨ r ≠ 0 then _ else []) ++ (if r ≠ 0 then _ else []) = _
        rw [if_pos (.inr hr0), if_pos hr0]
        simp
      refine ⟨⟨_, rfl, rfl, rfl⟩, .inl ⟨_, _, _, num_spec S1 v hv, fun S2 _ hS2 _ => ?_⟩⟩
      by_cases hu0 : u = 0
      · refine offE (bne_eq_false_iff_eq.2 hu0) (onE (bne_iff_ne.2 hr0) ⟨by rw [c46, bs_size]; omega, u, wu, ⟨_, rfl, rfl, rfl⟩, .inl ⟨_, _, _, num_spec S2 u hu64, fun S3 _ hS3 _ => ?_⟩⟩)
        refine ⟨by rw [ByteArray.size_append, c46, bs_size, bs_size]; omega, onE (bne_iff_ne.2 hr0) ⟨by simp only [ByteArray.size_append, c46, c35, bs_size]; omega, ⟨_, rfl, rfl, rfl⟩, .inl ⟨_, _, _, num_spec S3 (Li.whoOf r) ⟨by omega, by omega⟩, fun S4 _ hS4 _ => ?_⟩⟩⟩
        refine ⟨by simp only [ByteArray.size_append, c46, c35, bs_size]; omega, by simp only [ByteArray.size_append, c46, c35, c58, bs_size]; omega, ⟨_, rfl, rfl, rfl⟩, .inl ⟨_, _, _, num_spec S4 (Li.seqOf r) ⟨by omega, by omega⟩, fun S5 _ hS5 _ => ?_⟩⟩
        refine ⟨by simp only [ByteArray.size_append, c46, c35, c58, bs_size]; omega, rfl, (), ?_, trivial⟩
        show rS (bs (Li.textW (v, u, r))) = rS (bs (Lib.itoa v) ++ bs [46] ++ bs (Lib.itoa u) ++ bs [35] ++ bs (Lib.itoa (Li.whoOf r)) ++ bs [58] ++ bs (Lib.itoa (Li.seqOf r)))
        rw [e, bs_app, bs_app, bs_app, bs_app, bs_app, bs_app]
      · refine onE (bne_iff_ne.2 hu0) (onT ⟨by rw [c46, bs_size]; omega, u, wu, ⟨_, rfl, rfl, rfl⟩, .inl ⟨_, _, _, num_spec S2 u hu64, fun S3 _ hS3 _ => ?_⟩⟩)
        refine ⟨by rw [ByteArray.size_append, c46, bs_size, bs_size]; omega, onE (bne_iff_ne.2 hr0) ⟨by simp only [ByteArray.size_append, c46, c35, bs_size]; omega, ⟨_, rfl, rfl, rfl⟩, .inl ⟨_, _, _, num_spec S3 (Li.whoOf r) ⟨by omega, by omega⟩, fun S4 _ hS4 _ => ?_⟩⟩⟩
        refine ⟨by simp only [ByteArray.size_append, c46, c35, bs_size]; omega, by simp only [ByteArray.size_append, c46, c35, c58, bs_size]; omega, ⟨_, rfl, rfl, rfl⟩, .inl ⟨_, _, _, num_spec S4 (Li.seqOf r) ⟨by omega, by omega⟩, fun S5 _ hS5 _ => ?_⟩⟩
        refine ⟨by simp only [ByteArray.size_append, c46, c35, c58, bs_size]; omega, rfl, (), ?_, trivial⟩
        show rS (bs (Li.textW (v, u, r))) = rS (bs (Lib.itoa v) ++ bs [46] ++ bs (Lib.itoa u) ++ bs [35] ++ bs (Lib.itoa (Li.whoOf r)) ++ bs [58] ++ bs (Lib.itoa (Li.seqOf r)))
        rw [e, bs_app, bs_app, bs_app, bs_app, bs_app, bs_app]
    · have hf : Li.held r = false := by simpa using hh
      have ew : whoR r = 0 := if_neg hh
      rw [ew]
      refine onE rfl ⟨rfl, (), ?_, trivial⟩
      have : Li.textW (v, u, r) = [] := by unfold Li.textW; rw [if_pos ⟨hr0, hf⟩]
      rw [this]; rfl
end Go.Proofs.YtapblcfbmaikjaaGreatDoor
