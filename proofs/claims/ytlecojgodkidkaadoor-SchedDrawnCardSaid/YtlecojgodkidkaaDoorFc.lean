/- law07: number, kinds, wrong. -/
import Derived.Test.YtlecojgodkidkaaDoorFb
namespace Go.Proofs.YtlecojgodkidkaaDoor
open Go Go.Vc
set_option maxRecDepth 100000

theorem isE {u v : List UInt8} (h : u = v) : ((bs u).toList == (bs v).toList) = true := (bsq u v).trans (decide_eq_true h)
theorem isN {u v : List UInt8} (h : u ≠ v) : ((bs u).toList == (bs v).toList) = false := (bsq u v).trans (decide_eq_false h)
theorem ntT {b : Bool} (h : b = true) : (!b) = false := by rw [h]; rfl
theorem ntF {b : Bool} (h : b = false) : (!b) = true := by rw [h]; rfl
theorem digits_dig (x : UInt8) : digits.contains x = Txt.isDig x := by
  have h : ∀ n : Nat, n < 256 → digits.contains (UInt8.ofNat n) = Txt.isDig (UInt8.ofNat n) := by decide
  have := h x.toNat x.toNat_lt
  rwa [UInt8.ofNat_toNat] at this
theorem trim_dig (m : List UInt8) : Lib.trimS m digits = [] ↔ m.all Txt.isDig = true := by
  rw [Txt.trim_empty, List.all_eq_true]
  exact ⟨fun h x hx => by rw [← digits_dig]; exact h x hx, fun h x hx => by rw [digits_dig]; exact h x hx⟩
/-- A number of a line: its value, its form, its range. -/
def numR (s : List UInt8) : Int × Bool × Bool := ((atoiR s).1, Txt.canon s, (atoiR s).2)
theorem number_spec (S : Store) (hL : Lw S) (s : List UInt8) (hs : s.length ≤ 1000000) :
    Pure Tryd.prog 45 S [.string (bs s)] (A := Unit) (fun _ => .tup [(false, [.v (.int .i64 (numR s).1)]), (false, [.v (.bool (numR s).2.1)]), (false, [.v (.bool (numR s).2.2)])]) (fun _ _ => True) := by
  refine pure_vc agrees Tryd.func45 rfl rfl (fun S S' q hle h => h) ?_
  refine ⟨⟨_, rfl, rfl, rfl⟩, .inl ⟨_, _, _, prefix_spec S s, fun S1 _ hS1 _ => ?_⟩⟩
  have hlen : (Txt.magOf s).length ≤ s.length := by
    unfold Txt.magOf Lib.trimPrefix; split <;> simp
  have hL1 := hL.le hS1
  by_cases h0 : Txt.magOf s = []
  · have hc : Txt.canon s = false := by simp [Txt.canon, h0]
    refine offE (ntT (isE h0)) (offE rfl ?_)
    refine ⟨⟨_, rfl, rfl, rfl⟩, .inl ⟨_, _, _, atoi_spec S1 hL1 s (by omega), fun S2 ev hS2 hev => ?_⟩⟩
    refine ⟨or45_4, [], oF45_4, by kernel_rfl, ?_⟩
    rcases hev with ⟨e1, rfl⟩ | ⟨e1, t, p, rfl⟩
    · refine ⟨rfl, (), ?_, trivial⟩
      simp only [numR, hc, e1]; rfl
    · refine ⟨rfl, (), ?_, trivial⟩
      simp only [numR, hc, e1]; rfl
  refine onE (ntF (isN h0)) ?_
  refine ⟨⟨_, rfl, rfl, rfl⟩, .inl ⟨_, _, _, trim_spec S1 (Txt.magOf s) (by omega), fun S2 _ hS2 _ => ?_⟩⟩
  have hL2 := hL1.le hS2
  by_cases h1 : (Txt.magOf s).all Txt.isDig = true
  · refine onE (isE ((trim_dig _).2 h1)) ?_
    obtain ⟨c, r, hm⟩ : ∃ c r, Txt.magOf s = c :: r := by
      cases hm : Txt.magOf s with
      | nil => exact absurd hm h0
      | cons c r => exact ⟨c, r, rfl⟩
    refine ⟨by decide, c, by rw [hm]; rfl, ?_⟩
    by_cases h2 : c = 48
    · refine offE (by rw [h2]; rfl) ?_
      by_cases h3 : s = [48]
      · have hc : Txt.canon s = true := by rw [h3]; rfl
        have e : ((bs s).toList == ({ data := #[48] } : ByteArray).toList) = true := isE h3
        refine ⟨⟨_, rfl, rfl, rfl⟩, .inl ⟨_, _, _, atoi_spec S2 hL2 s (by omega), fun S3 ev hS3 hev => ?_⟩⟩
        refine ⟨or45_4, [], oF45_4, by kernel_rfl, ?_⟩
        rcases hev with ⟨e1, rfl⟩ | ⟨e1, t, p, rfl⟩ <;> exact ⟨rfl, (), by simp only [numR, hc, e1, e]; rfl, trivial⟩
      · have hc : Txt.canon s = false := by simp [Txt.canon, hm, h2, h3]
        have e : ((bs s).toList == ({ data := #[48] } : ByteArray).toList) = false := isN h3
        refine ⟨⟨_, rfl, rfl, rfl⟩, .inl ⟨_, _, _, atoi_spec S2 hL2 s (by omega), fun S3 ev hS3 hev => ?_⟩⟩
        refine ⟨or45_4, [], oF45_4, by kernel_rfl, ?_⟩
        rcases hev with ⟨e1, rfl⟩ | ⟨e1, t, p, rfl⟩ <;> exact ⟨rfl, (), by simp only [numR, hc, e1, e]; rfl, trivial⟩
    · refine onE (by
        have : ((c.toNat : Int) == 48) = false := by
          refine beq_eq_false_iff_ne.2 fun e => h2 ?_
          have : c.toNat = 48 := by omega
          exact UInt8.toNat_inj.1 this
        show (!((c.toNat : Int) == 48)) = true
        rw [this]; rfl) ?_
      have hc : Txt.canon s = true := by rw [Txt.canon, h1]; simp [hm, h2]
      refine ⟨⟨_, rfl, rfl, rfl⟩, .inl ⟨_, _, _, atoi_spec S2 hL2 s (by omega), fun S3 ev hS3 hev => ?_⟩⟩
      refine ⟨or45_4, [], oF45_4, by kernel_rfl, ?_⟩
      rcases hev with ⟨e1, rfl⟩ | ⟨e1, t, p, rfl⟩ <;> exact ⟨rfl, (), by simp only [numR, hc, e1]; rfl, trivial⟩
  · have hc : Txt.canon s = false := by simp only [Bool.not_eq_true] at h1; simp [Txt.canon, h1]
    refine offE (isN (fun e => h1 ((trim_dig _).1 e))) ?_
    refine ⟨⟨_, rfl, rfl, rfl⟩, .inl ⟨_, _, _, atoi_spec S2 hL2 s (by omega), fun S3 ev hS3 hev => ?_⟩⟩
    refine ⟨or45_4, [], oF45_4, by kernel_rfl, ?_⟩
    rcases hev with ⟨e1, rfl⟩ | ⟨e1, t, p, rfl⟩ <;> exact ⟨rfl, (), by simp only [numR, hc, e1]; rfl, trivial⟩
theorem kinds_spec (S : Store) : Pure Tryd.prog 42 S [] (A := Unit) (fun _ => .agg [.v (.string (bs [115, 116, 101, 112])), .v (.bool true), .v (.bool true), .v (.string (bs [115, 116, 111, 112])), .v (.bool true), .v (.bool false), .v (.string (bs [99, 114, 97, 115, 104])), .v (.bool false), .v (.bool true)]) (fun _ _ => True) := by
  refine pure_vc agrees Tryd.func42 rfl rfl (fun S S' q hle h => h) ?_
  exact ⟨rfl, (), rfl, trivial⟩
/-- The error of a pick. -/
def checkR (p : Pk) : Int :=
  if p.1 < 0 ∨ p.1 > 2 then 2
  else if (p.1 = 2 ∧ p.2.1 ≠ 0) ∨ (p.1 ≠ 2 ∧ (p.2.1 < 1 ∨ p.2.1 > 8)) then 3
  else if (p.1 = 1 ∧ p.2.2 ≠ 0) ∨ p.2.2 < -2147483648 ∨ p.2.2 > 2147483647 then 4 else 0
theorem wrong_spec (S : Store) (p : Pk) : Pure Tryd.prog 33 S [vP p] rI (fun _ c => c = checkR p) := by
  refine pure_vc agrees Tryd.func33 rfl rfl (fun S S' q hle h => h) ?_
  obtain ⟨k, th, ch⟩ := p
  by_cases h0 : k < 0
  · exact onE (decide_eq_true h0) (onT ⟨rfl, 2, rfl, by simp [checkR, h0]⟩)
  refine offE (decide_eq_false h0) ?_
  by_cases h1 : k > 2
  · refine onE (decide_eq_true h1) ⟨rfl, 2, rfl, by simp [checkR, h1]⟩
  refine offE (decide_eq_false h1) ?_
  have hk : k = 0 ∨ k = 1 ∨ k = 2 := by omega
  refine ⟨or33_3, [1], oF33_3, by kernel_rfl, ?_⟩
  rcases hk with rfl | rfl | rfl
  all_goals
    refine ⟨⟨⟨_, rfl, rfl, rfl⟩, .inl ⟨_, _, _, kinds_spec S, fun S1 _ hS1 _ => ?_⟩⟩, ⟨⟨_, rfl, rfl, rfl⟩, .inl ⟨_, _, _, kinds_spec S, fun S1 _ hS1 _ => ?_⟩⟩, trivial⟩
  all_goals first
    | refine ⟨by dsimp only; decide, by dsimp only; decide, (bs [115, 116, 101, 112], true, true), rfl, ?_⟩
    | refine ⟨by dsimp only; decide, by dsimp only; decide, (bs [115, 116, 111, 112], true, false), rfl, ?_⟩
    | refine ⟨by dsimp only; decide, by dsimp only; decide, (bs [99, 114, 97, 115, 104], false, true), rfl, ?_⟩
  all_goals clear h0 h1
  all_goals
    repeat' first
      | refine onT ?_
      | refine onF ?_
      | (refine And.intro (fun h => ?_) (fun h => ?_) <;> simp only [decide_eq_true_eq, decide_eq_false_iff_not, bne_iff_ne, bne_eq_false_iff_eq] at h)
      | refine And.intro rfl (Exists.intro _ (And.intro rfl ?_))
  all_goals simp only [checkR]
  all_goals repeat (first | rw [if_pos (by omega)] | rw [if_neg (by omega)] | rw [if_pos (.inl ⟨trivial, h⟩)])
end Go.Proofs.YtlecojgodkidkaaDoor
