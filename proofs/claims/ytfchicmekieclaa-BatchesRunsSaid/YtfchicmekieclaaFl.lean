/- law54: the laws: Batch, Split. -/
import Derived.Test.YtfchicmekieclaaFk
namespace Go.Proofs.Ytfchicmekieclaa
open Go Go.Vc
set_option maxRecDepth 100000

theorem small {m : M} {n : Nat} {x : Bool} (hx : x = (bif decide ((m.length : Int) > 60) then true else decide ((n : Int) > 60))) (e : x = false) : m.length ≤ 60 ∧ n ≤ 60 := by
  subst e
  cases h : decide ((m.length : Int) > 60) with
  | true => rw [h] at hx; cases hx
  | false =>
    rw [h] at hx
    have h1 : ¬ (m.length : Int) > 60 := of_decide_eq_false h
    have h2 : ¬ (n : Int) > 60 := of_decide_eq_false hx.symm
    omega
theorem alike_self (l : List O) : alike l l = true := by simp [alike]

set_option maxHeartbeats 8000000 in
theorem law_batch (S : Store) (b : Option Nat) (m : M) (hm : MapRd S b (.int .i64) (.int .i64) m) (h1 : once m) (p : Hd) (l : List O) (hl : l.length = p.2.1) (hr : RowRd S p.1 shO l) :
    Pure Try.prog 4 S [.map b, slV p] rB (fun _ x => x = true) := by
  obtain ⟨p, n, c⟩ := p
  simp only at hl hr
  subst hl
  refine pure_vc agrees Try.func4 rfl rfl (fun _ _ _ _ h => h) ?_
  refine ⟨⟨_, rfl, rfl, rfl⟩, .inl ⟨_, _, _, great_spec S b m hm (p, l.length, c), fun S0 x hS0 hx => ?_⟩⟩
  refine And.intro (fun e => ⟨⟨_, rfl, rfl, rfl⟩, .inl ⟨_, _, _, awake_spec _, fun S' x hS hx => ⟨rfl, x, rfl, hx⟩⟩⟩) (fun e => ?_)
  have hn : l.length ≤ 60 := (small hx e).2
  have hbl := batch_len l
  have hm0 := hm.le hS0
  have hr0 := hr.le hS0
  refine ⟨⟨_, rfl, rfl, rfl⟩, .inl ⟨_, _, _, batch_spec S0 (p, l.length, c) l rfl hr0 (by omega), fun S1 q hS1 ⟨hq1, hq2⟩ => ?_⟩⟩
  refine ⟨⟨_, rfl, rfl, rfl⟩, .inl ⟨_, _, _, of_spec S1 q (batch l) hq1.symm hq2 (by omega), fun S2 u hS2 ⟨hu1, hu2⟩ => ?_⟩⟩
  have hm2 := (hm0.le hS1).le hS2
  have hr2 := (hr0.le hS1).le hS2
  refine ⟨⟨_, rfl, rfl, rfl⟩, .inl ⟨_, _, _, of_spec S2 (p, l.length, c) l rfl hr2 (by omega), fun S3 v hS3 ⟨hv1, hv2⟩ => ?_⟩⟩
  refine ⟨⟨_, rfl, rfl, rfl⟩, .inl ⟨_, _, _, ref_batch_spec S3 v l hv1.symm hv2 (by omega), fun S4 w hS4 ⟨hw1, hw2⟩ => ?_⟩⟩
  refine ⟨⟨_, rfl, rfl, rfl⟩, .inl ⟨_, _, _, alike_spec S4 u w (batch l) (batch l) hu1.symm ((hu2.le hS3).le hS4) hw1.symm hw2 (by omega), fun S5 x5 hS5 hx5 => ?_⟩⟩
  have hx5' : x5 = true := by have : x5 = alike (batch l) (batch l) := hx5; rw [this]; exact alike_self _
  clear hx5
  subst hx5'
  have hm5 := ((hm2.le hS3).le hS4).le hS5
  have hr5 := ((hr2.le hS3).le hS4).le hS5
  have hq5 := (((hq2.le hS2).le hS3).le hS4).le hS5
  have hle : (q.2.1 : Int) ≤ (l.length : Int) := by rw [hq1]; omega
  refine onT ⟨fun _ => ?_, fun h => absurd h (by simp; omega)⟩
  refine ⟨⟨_, rfl, rfl, rfl⟩, .inl ⟨_, _, _, apply_spec S5 b m hm5 h1 q (batch l) hq1.symm hq5 (by omega), fun S6 y hS6 ⟨es, hy1, hy2, hy3⟩ => ?_⟩⟩
  refine ⟨⟨_, rfl, rfl, rfl⟩, .inl ⟨_, _, _, apply_spec S6 b m (hm5.le hS6) h1 (p, l.length, c) l rfl (hr5.le hS6) (by omega), fun S7 z hS7 ⟨fs, hz1, hz2, hz3⟩ => ?_⟩⟩
  refine ⟨⟨_, rfl, rfl, rfl⟩, .inl ⟨_, _, _, same_spec S7 y z es fs (hy1.le hS7) hy2 hz1 hz2, fun S8 x8 hS8 hx8 => ?_⟩⟩
  have hx8' : x8 = true := by
    have : x8 = true ↔ ∀ k, get es k = get fs k := hx8
    rw [this]
    intro k
    rw [hy3, hz3, app_batch]
  clear hx8
  subst hx8'
  have hq8 := ((hq5.le hS6).le hS7).le hS8
  refine onT ⟨⟨_, rfl, rfl, rfl⟩, .inl ⟨_, _, _, batch_spec S8 q (batch l) hq1.symm hq8 (by omega), fun S9 q' hS9 ⟨hr1', hr2'⟩ => ?_⟩⟩
  rw [batch_batch] at hr1' hr2'
  refine ⟨⟨_, rfl, rfl, rfl⟩, .inl ⟨_, _, _, of_spec S9 q' (batch l) hr1'.symm hr2' (by omega), fun S10 u' hS10 ⟨ha1, ha2⟩ => ?_⟩⟩
  refine ⟨⟨_, rfl, rfl, rfl⟩, .inl ⟨_, _, _, of_spec S10 q (batch l) hq1.symm ((hq8.le hS9).le hS10) (by omega), fun S11 u'' hS11 ⟨hb1, hb2⟩ => ?_⟩⟩
  refine ⟨⟨_, rfl, rfl, rfl⟩, .inl ⟨_, _, _, alike_spec S11 u' u'' (batch l) (batch l) ha1.symm (ha2.le hS11) hb1.symm hb2 (by omega), fun S12 x12 hS12 hx12 => ?_⟩⟩
  have hx12' : x12 = true := by have : x12 = alike (batch l) (batch l) := hx12; rw [this]; exact alike_self _
  clear hx12
  subst hx12'
  exact onT ⟨⟨_, rfl, rfl, rfl⟩, .inl ⟨_, _, _, awake_spec _, fun S' x hS hx => ⟨rfl, x, rfl, hx⟩⟩⟩

set_option maxHeartbeats 8000000 in
theorem law_split (S : Store) (b : Option Nat) (m : M) (hm : MapRd S b (.int .i64) (.int .i64) m) (h1 : once m) (p : Hd) (l : List O) (hl : l.length = p.2.1) (hr : RowRd S p.1 shO l) (cut : Int) (hc0 : 0 ≤ cut) (hc1 : cut ≤ 255) (hcap : p.2.1 ≤ p.2.2) :
    Pure Try.prog 8 S [.map b, slV p, .int .u8 cut] rB (fun _ x => x = true) := by
  obtain ⟨p, n, c⟩ := p
  simp only at hl hr hcap
  subst hl
  refine pure_vc agrees Try.func8 rfl rfl (fun _ _ _ _ h => h) ?_
  refine ⟨⟨_, rfl, rfl, rfl⟩, .inl ⟨_, _, _, great_spec S b m hm (p, l.length, c), fun S0 x hS0 hx => ?_⟩⟩
  refine And.intro (fun e => ⟨⟨_, rfl, rfl, rfl⟩, .inl ⟨_, _, _, awake_spec _, fun S' x hS hx => ⟨rfl, x, rfl, hx⟩⟩⟩) (fun e => ?_)
  have hn : l.length ≤ 60 := (small hx e).2
  have hm0 := hm.le hS0
  have hr0 := hr.le hS0
  have hw1 : IntKind.i64.wrap cut = cut := wrap_i64 (by omega) (by omega)
  have hw2 : IntKind.i64.wrap ((l.length : Int) + 1) = (l.length : Int) + 1 := wrap_i64 (by omega) (by omega)
  obtain ⟨k, hk, hkl⟩ : ∃ k : Nat, cut.tmod ((l.length : Int) + 1) = (k : Int) ∧ k ≤ l.length := by
    refine ⟨(cut.tmod ((l.length : Int) + 1)).toNat, ?_, ?_⟩
    · rw [Int.toNat_of_nonneg (Int.tmod_nonneg _ hc0)]
    · have := Int.tmod_lt_of_pos cut (b := (l.length : Int) + 1) (by omega)
      omega
  refine ⟨cut, hw1, _, hw2, by omega, _, hk, ?_⟩
  refine ⟨or8_4, [], oF8_4, by kernel_rfl, ?_⟩
  have hkl' : ((k : Nat) : Int).toNat = k := Int.toNat_natCast k
  refine ⟨Int.natCast_nonneg _, Nat.le_trans hkl hcap, Int.natCast_nonneg _, hkl, hcap, ?_⟩
  have ht : (l.take k).length = k := by rw [List.length_take]; omega
  have hd : (l.drop k).length = l.length - k := by rw [List.length_drop]
  have hb1 := batch_len (l.take k)
  have hb2 := batch_len (l.drop k)
  refine ⟨⟨_, rfl, rfl, rfl⟩, .inl ⟨_, _, _, batch_spec S0 (p, k, c) (l.take k) ht (hr0.take k) (by omega), fun S1 q hS1 ⟨hq1, hq2⟩ => ?_⟩⟩
  refine ⟨⟨_, rfl, rfl, rfl⟩, .inl ⟨_, _, _, batch_spec S1 (if c = k then p else p.map fun p => addrAdd p (k * 3), l.length - k, c - k) (l.drop k) hd ((hr0.le hS1).drop hcap rfl) (by omega), fun S2 q' hS2 ⟨hr1', hr2'⟩ => ?_⟩⟩
  have both_len : (batch (l.take k) ++ batch (l.drop k)).length ≤ 60 := by rw [List.length_append]; omega
  have hbb := batch_len (batch (l.take k) ++ batch (l.drop k))
  have hby : (batch (l.take k)).length + (batch (l.drop k)).length ≤ 60 := by rw [← List.length_append]; exact both_len
  refine ⟨batch (l.take k), src_of hq1 (hq2.le hS2), fun _ _ => ⟨trivial, trivial, trivial⟩, (show (0 + (batch (l.take k)).length) * 24 ≤ 140737488355328 by omega), ?_⟩
  refine ⟨batch (l.drop k), src_of hr1' hr2', fun _ _ => ⟨trivial, trivial, trivial⟩, (show ((batch (l.take k)).length + (batch (l.drop k)).length) * 24 ≤ 140737488355328 by omega), ?_⟩
  refine ⟨⟨_, rfl, rfl, rfl⟩, .inl ⟨_, _, _, apply_spec S2 b m ((hm0.le hS1).le hS2) h1 (p, l.length, c) l rfl ((hr0.le hS1).le hS2) (by omega), fun S3 z hS3 ⟨fs, hz1, hz2, hz3⟩ => ?_⟩⟩
  have hm3 := ((hm0.le hS1).le hS2).le hS3
  have hkey : ∀ x, app (get m) (batch (l.take k) ++ batch (l.drop k)) x = app (get m) l x := by
    intro x
    rw [app_append, app_batch, show app (get m) (batch (l.take k)) = app (get m) (l.take k) from funext (app_batch _ _), ← app_append, List.take_append_drop]
  refine ⟨⟨_, rfl, rfl, rfl⟩, .inl fun p' c' S4 h4 hr4 => ⟨_, _, _, apply_spec S4 b m (hm3.le h4) h1 (p', (batch (l.take k) ++ batch (l.drop k)).length, c') (batch (l.take k) ++ batch (l.drop k)) rfl hr4 (by omega), fun S5 y hS5 ⟨es, hy1, hy2, hy3⟩ => ?_⟩⟩
  refine ⟨⟨_, rfl, rfl, rfl⟩, .inl ⟨_, _, _, same_spec S5 y z es fs hy1 hy2 ((hz1.le h4).le hS5) hz2, fun S6 x6 hS6 hx6 => ?_⟩⟩
  have hx6' : x6 = true := by
    have : x6 = true ↔ ∀ k, get es k = get fs k := hx6
    rw [this]
    intro k
    rw [hy3, hz3, hkey]
  clear hx6
  subst hx6'
  have hr6 := (hr4.le hS5).le hS6
  refine onT ⟨⟨_, rfl, rfl, rfl⟩, .inl ⟨_, _, _, batch_spec S6 (p', (batch (l.take k) ++ batch (l.drop k)).length, c') (batch (l.take k) ++ batch (l.drop k)) rfl hr6 (by omega), fun S7 u hS7 ⟨hu1, hu2⟩ => ?_⟩⟩
  have hm7 := (((hm3.le h4).le hS5).le hS6).le hS7
  refine ⟨⟨_, rfl, rfl, rfl⟩, .inl ⟨_, _, _, apply_spec S7 b m hm7 h1 u _ hu1.symm hu2 (by omega), fun S8 y8 hS8 ⟨es8, hy81, hy82, hy83⟩ => ?_⟩⟩
  refine ⟨⟨_, rfl, rfl, rfl⟩, .inl ⟨_, _, _, same_spec S8 y8 z es8 fs hy81 hy82 (((((hz1.le h4).le hS5).le hS6).le hS7).le hS8) hz2, fun S9 x9 hS9 hx9 => ?_⟩⟩
  have hx9' : x9 = true := by
    have : x9 = true ↔ ∀ k, get es8 k = get fs k := hx9
    rw [this]
    intro k
    rw [hy83, hz3, app_batch, hkey]
  clear hx9
  subst hx9'
  have hr9 := ((hr6.le hS7).le hS8).le hS9
  refine onT ⟨⟨_, rfl, rfl, rfl⟩, .inl ⟨_, _, _, batch_spec S9 (p', (batch (l.take k) ++ batch (l.drop k)).length, c') (batch (l.take k) ++ batch (l.drop k)) rfl hr9 (by omega), fun S10 v hS10 ⟨hv1, hv2⟩ => ?_⟩⟩
  have hle : ((v.2.1 : Nat) : Int) ≤ ((batch (l.take k) ++ batch (l.drop k)).length : Int) := by rw [hv1]; omega
  refine ⟨fun _ => ⟨⟨_, rfl, rfl, rfl⟩, .inl ⟨_, _, _, awake_spec _, fun S' x hS hx => ⟨rfl, x, rfl, hx⟩⟩⟩, fun h => ?_⟩
  have h' : decide (((v.2.1 : Nat) : Int) ≤ ((batch (l.take k) ++ batch (l.drop k)).length : Int)) = false := h
  exact absurd hle (of_decide_eq_false h')
end Go.Proofs.Ytfchicmekieclaa
