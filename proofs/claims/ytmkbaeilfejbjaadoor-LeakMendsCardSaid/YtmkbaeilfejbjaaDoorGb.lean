/- law16, LeakMends: the layout with one thread and eight cells: where things lie. -/
import Derived.Test.YtmkbaeilfejbjaaDoorGa
namespace Go.Proofs.YtmkbaeilfejbjaaDoor
open Go Go.Vc
set_option maxRecDepth 100000

theorem check_spec (S : Store) (b : Int) (hb : 1 ≤ b ∧ b ≤ 64) (hS : S.rd 0 0 sizesL) : Pure Tryd.prog 28 S [vL b] rI (fun _ x => x = 0) := by
  refine pure_vc agrees Tryd.func28 rfl rfl (fun S S' q hle h => h) ?_
  refine ⟨⟨_, rfl, rfl, rfl⟩, .inl ⟨_, _, _, between_spec S 1 1 8, fun S1 x hS1 hx => ?_⟩⟩
  obtain rfl : true = x := hx.symm
  refine onF ⟨⟨_, rfl, rfl, rfl⟩, .inl ⟨_, _, _, between_spec S1 8 1 2048, fun S2 x hS2 hx => ?_⟩⟩
  obtain rfl : true = x := hx.symm
  refine onF ⟨⟨_, rfl, rfl, rfl⟩, .inl ⟨_, _, _, between_spec S2 b 0 64, fun S3 x hS3 hx => ?_⟩⟩
  have hx : x = true := by rw [show x = _ from hx, decide_eq_true (by omega), decide_eq_true (by omega)]; rfl
  subst hx
  have h3 := Store.le_trans hS1 (Store.le_trans hS2 hS3)
  refine onF ⟨⟨_, rfl, rfl, rfl⟩, .inl ⟨_, _, _, from_spec S3 b hb (Store.rd_le h3 hS) 7 (by omega), fun S4 x hS4 hx => ?_⟩⟩
  obtain rfl : 144 + 32 * b = x := hx.symm
  refine And.intro (fun h => absurd (of_decide_eq_true h) (by omega)) (fun _ => ?_)
  exact ⟨rfl, _, rfl, rfl⟩
theorem right_spec (S : Store) (b : Int) (hb : 1 ≤ b ∧ b ≤ 64) (hS : S.rd 0 0 sizesL) : Pure Tryd.prog 20 S [vL b] rB (fun _ x => x = true) := by
  refine pure_vc agrees Tryd.func20 rfl rfl (fun S S' q hle h => h) ?_
  refine ⟨⟨_, rfl, rfl, rfl⟩, .inl ⟨_, _, _, check_spec S b hb hS, fun S1 x hS1 hx => ?_⟩⟩
  obtain rfl : 0 = x := hx.symm
  exact ⟨rfl, _, rfl, rfl⟩
theorem size_spec (S : Store) (b : Int) (hb : 1 ≤ b ∧ b ≤ 64) (hS : S.rd 0 0 sizesL) : Pure Tryd.prog 21 S [vL b] rI (fun _ x => x = 144 + 32 * b) := by
  refine pure_vc agrees Tryd.func21 rfl rfl (fun S S' q hle h => h) ?_
  refine ⟨⟨_, rfl, rfl, rfl⟩, .inl ⟨_, _, _, right_spec S b hb hS, fun S1 x hS1 hx => ?_⟩⟩
  obtain rfl : true = x := hx.symm
  refine onF ⟨⟨_, rfl, rfl, rfl⟩, .inl ⟨_, _, _, from_spec S1 b hb (Store.rd_le hS1 hS) 7 (by omega), fun S4 x hS4 hx => ?_⟩⟩
  exact ⟨rfl, _, rfl, hx⟩
theorem sizeP_le {p : Nat} (hp : p < 7) : 0 ≤ sizeP p ∧ sizeP p ≤ 104 := by
  rcases lt7 hp with rfl | rfl | rfl | rfl | rfl | rfl | rfl <;> decide
theorem sizesL_get {p : Nat} (hp : p < 7) : sizesL[p]? = some (.int .i64 (sizeP p)) := by
  rcases lt7 hp with rfl | rfl | rfl | rfl | rfl | rfl | rfl <;> rfl
theorem fromP_le (b : Int) (hb : 1 ≤ b ∧ b ≤ 64) {p : Nat} (hp : p ≤ 7) : 0 ≤ fromP b p ∧ fromP b p ≤ 100000 := by
  cases p with
  | zero => exact ⟨by show (0 : Int) ≤ 0; omega, by show (0 : Int) ≤ 100000; omega⟩
  | succ p => exact (fromP_succ b hb (p := p) (by omega)).2
theorem at_spec (S : Store) (b : Int) (hb : 1 ≤ b ∧ b ≤ 64) (hS : S.rd 0 0 sizesL) (p : Nat) (hp : p < 7) (i more : Int) (h0 : 0 ≤ i) (h1 : i < manyP b p) (h2 : i ≤ 64) (h3 : 0 ≤ more ∧ more ≤ 64) :
    Pure Tryd.prog 30 S [vL b, .int .i64 p, .int .i64 i, .int .i64 more] rI (fun _ x => x = fromP b p + i * sizeP p + more) := by
  refine pure_vc agrees Tryd.func30 rfl rfl (fun S S' q hle h => h) ?_
  refine ⟨⟨_, rfl, rfl, rfl⟩, .inl ⟨_, _, _, right_spec S b hb hS, fun S1 x hS1 hx => ?_⟩⟩
  obtain rfl : true = x := hx.symm
  refine onF (And.intro (fun h => absurd (of_decide_eq_true h) (by omega)) (fun _ => ?_))
  refine ⟨⟨_, rfl, rfl, rfl⟩, .inl ⟨_, _, _, many_spec S1 b p hp, fun S2 x hS2 hx => ?_⟩⟩
  obtain rfl : manyP b p = x := hx.symm
  refine And.intro (fun h => absurd (of_decide_eq_true h) (by omega)) (fun _ => ?_)
  have h12 := Store.le_trans hS1 hS2
  refine ⟨or30_3, [], oF30_3, by kernel_rfl, ?_⟩
  have hs := sizeP_le hp
  have hm0 : 0 ≤ i * sizeP p := Int.mul_nonneg h0 hs.1
  have hm1 : i * sizeP p ≤ 64 * 104 := Int.mul_le_mul h2 hs.2 hs.1 (by decide)
  have hf := fromP_le b hb (p := p) (by omega)
  refine ⟨by omega, by omega, sizeP p, trivial, rd_at (Store.rd_le h12 hS) p _ (sizesL_get hp), i * sizeP p, wrap_i64 (by omega) (by omega), ⟨_, rfl, rfl, rfl⟩, .inl ⟨_, _, _, from_spec S2 b hb (Store.rd_le h12 hS) p (by omega), fun S3 x hS3 hx => ?_⟩⟩
  obtain rfl : fromP b p = x := hx.symm
  exact ⟨_, wrap_i64 (by omega) (by omega), _, wrap_i64 (by omega) (by omega), rfl, _, rfl, rfl⟩

theorem era_spec (S : Store) (b : Int) (hb : 1 ≤ b ∧ b ≤ 64) (hS : S.rd 0 0 sizesL) : Pure Tryd.prog 22 S [vL b] rI (fun _ x => x = 1) := by
  refine pure_vc agrees Tryd.func22 rfl rfl (fun S S' q hle h => h) ?_
  refine ⟨⟨_, rfl, rfl, rfl⟩, .inl ⟨_, _, _, at_spec S b hb hS 0 (by omega) 0 1 (by omega) (by show (0:Int) < 1; omega) (by omega) (by omega), fun S1 x hS1 hx => ?_⟩⟩
  exact ⟨rfl, _, rfl, hx⟩
theorem slot_spec (S : Store) (b : Int) (hb : 1 ≤ b ∧ b ≤ 64) (hS : S.rd 0 0 sizesL) : Pure Tryd.prog 23 S [vL b, .int .i64 1] rI (fun _ x => x = 32) := by
  refine pure_vc agrees Tryd.func23 rfl rfl (fun S S' q hle h => h) ?_
  refine ⟨0, by decide, ⟨_, rfl, rfl, rfl⟩, .inl ⟨_, _, _, at_spec S b hb hS 4 (by omega) 0 0 (by omega) (by show (0:Int) < 1; omega) (by omega) (by omega), fun S1 x hS1 hx => ?_⟩⟩
  exact ⟨rfl, _, rfl, hx⟩
theorem block_spec (S : Store) (b : Int) (hb : 1 ≤ b ∧ b ≤ 64) (hS : S.rd 0 0 sizesL) (i : Int) (h0 : 0 ≤ i) (h1 : i < b) : Pure Tryd.prog 24 S [vL b, .int .i64 i] rI (fun _ x => x = 144 + i * 32) := by
  refine pure_vc agrees Tryd.func24 rfl rfl (fun S S' q hle h => h) ?_
  refine ⟨⟨_, rfl, rfl, rfl⟩, .inl ⟨_, _, _, at_spec S b hb hS 6 (by omega) i 0 h0 h1 (by omega) (by omega), fun S1 x hS1 hx => ?_⟩⟩
  exact ⟨rfl, _, rfl, by rw [show x = _ from hx]; show 144 + i * 32 + 0 = _; omega⟩

/-- Where a block's bit lies. -/
theorem bits_spec (S : Store) (b : Int) (hb : 1 ≤ b ∧ b ≤ 64) (hS : S.rd 0 0 sizesL) (i : Nat) (h1 : (i : Int) < b) :
    Pure Tryd.prog 19 S [vL b, .int .i64 i] (fun x => .tup [(false, [.v (.int .i64 x.1)]), (false, [.v (.int .i64 x.2)])]) (fun _ (x : Int × Int) => x = (((136 + i / 32 : Nat) : Int), ((2 ^ (i % 32) : Nat) : Int))) := by
  refine pure_vc agrees Tryd.func19 rfl rfl (fun S S' q hle h => h) ?_
  have hq : (i : Int).tdiv 32 = ((i / 32 : Nat) : Int) := by rw [Int.tdiv_eq_ediv_of_nonneg (by omega)]; omega
  have hr : (i : Int).tmod 32 = ((i % 32 : Nat) : Int) := by rw [Int.tmod_eq_emod_of_nonneg (by omega)]; omega
  refine ⟨by decide, _, (by rw [hq]; exact wrap_i64 (by omega) (by omega)), ⟨_, rfl, rfl, rfl⟩, .inl ⟨_, _, _, at_spec S b hb hS 5 (by omega) i ((i / 32 : Nat) : Int) (by omega) h1 (by omega) (by omega), fun S1 x hS1 hx => ?_⟩⟩
  have hx : x = ((136 + i / 32 : Nat) : Int) := by rw [show x = _ from hx]; show (136 : Int) + (i : Int) * 0 + _ = _; omega
  subst hx
  refine And.intro (fun h => absurd (of_decide_eq_true h) (by omega)) (fun _ => ?_)
  refine ⟨or19_4, [], oF19_4, by kernel_rfl, ?_⟩
  have hp : (2 ^ (i % 32) : Nat) ≤ 2 ^ 31 := Nat.pow_le_pow_right (by decide) (by omega)
  have hm : min ((i % 32 : Nat) : Int).toNat IntKind.i64.bits = i % 32 := by
    rw [Int.toNat_natCast]
    exact Nat.min_eq_left (by show i % 32 ≤ 64; omega)
  have hb : IntKind.i64.wrap (1 * 2 ^ min ((i % 32 : Nat) : Int).toNat IntKind.i64.bits) = ((2 ^ (i % 32) : Nat) : Int) := by
    rw [hm, Int.one_mul, show (2 : Int) ^ (i % 32) = ((2 ^ (i % 32) : Nat) : Int) by norm_cast]
    have hk : ∀ k : Nat, k ≤ 2 ^ 31 → IntKind.i64.wrap (k : Int) = k := fun k hk => wrap_i64 (by omega) (by omega)
    exact hk _ hp
  exact ⟨by decide, _, hr, by omega, _, hb, rfl, _, rfl, rfl⟩
end Go.Proofs.YtmkbaeilfejbjaaDoor
