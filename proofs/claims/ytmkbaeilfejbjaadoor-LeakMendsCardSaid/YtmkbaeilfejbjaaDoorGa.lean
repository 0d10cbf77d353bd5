/- law16, LeakMends: the layout with one thread and eight cells: its parts. -/
import Derived.Test.YtmkbaeilfejbjaaDoorFa
namespace Go.Proofs.YtmkbaeilfejbjaaDoor
open Go Go.Vc
set_option maxRecDepth 100000

@[reducible] def vL (b : Int) : Value := .agg #[.int .i64 1, .int .i64 8, .int .i64 b]
@[reducible] def sizesL : List Value := [.int .i64 8, .int .i64 8, .int .i64 8, .int .i64 1, .int .i64 104, .int .i64 0, .int .i64 32]
def sizeP (p : Nat) : Int := [8, 8, 8, 1, 104, 0, 32].getD p 0
def manyP (b : Int) (p : Nat) : Int := [1, 1, 1, 8, 1, b, b].getD p 0
def longP (b : Int) (p : Nat) : Int := [8, 8, 8, 8, 104, 8, 32 * b].getD p 0
def fromP (b : Int) (p : Nat) : Int := [0, 8, 16, 24, 32, 136, 144, 144 + 32 * b].getD p 0
theorem lt7 {p : Nat} (h : p < 7) : p = 0 ∨ p = 1 ∨ p = 2 ∨ p = 3 ∨ p = 4 ∨ p = 5 ∨ p = 6 := by omega

theorem between_spec (S : Store) (n a b : Int) : Pure Tryd.prog 34 S [.int .i64 n, .int .i64 a, .int .i64 b] rB (fun _ x => x = (decide (n ≥ a) && decide (n ≤ b))) := by
  refine pure_vc agrees Tryd.func34 rfl rfl (fun S S' q hle h => h) ?_
  refine And.intro (fun h => ⟨rfl, _, rfl, ?_⟩) (fun h => ⟨rfl, _, rfl, ?_⟩)
  · rw [h]; rfl
  · rw [h]; rfl

theorem many_spec (S : Store) (b : Int) (p : Nat) (hp : p < 7) : Pure Tryd.prog 35 S [vL b, .int .i64 p] rI (fun _ x => x = manyP b p) := by
  refine pure_vc agrees Tryd.func35 rfl rfl (fun S S' q hle h => h) ?_
  rcases lt7 hp with rfl | rfl | rfl | rfl | rfl | rfl | rfl <;> exact ⟨by decide, by decide, _, rfl, rfl, _, rfl, rfl⟩

theorem rd_at {S : Store} {b : Nat} {l : List Value} (h : S.rd b 0 l) (k : Nat) (v : Value) (hk : l[k]? = some v) : S.rd b (0 + k * 1) [v] := by
  intro j x hj
  cases j with
  | zero => simp only [List.getElem?_cons_zero, Option.some.injEq] at hj; subst hj; simpa using h k v hk
  | succ j => simp at hj

theorem long_spec (S : Store) (b : Int) (hb : 1 ≤ b ∧ b ≤ 64) (hS : S.rd 0 0 sizesL) (p : Nat) (hp : p < 7) : Pure Tryd.prog 36 S [vL b, .int .i64 p] rI (fun _ x => x = longP b p) := by
  refine pure_vc agrees Tryd.func36 rfl rfl (fun S S' q hle h => h) ?_
  refine ⟨or36_1, [], oF36_1, by kernel_rfl, ?_⟩
  rcases lt7 hp with rfl | rfl | rfl | rfl | rfl | rfl | rfl
  · refine ⟨by decide, by decide, (8 : Int), trivial, rd_at hS 0 _ rfl, ⟨_, rfl, rfl, rfl⟩, .inl ⟨_, _, _, many_spec S b 0 hp, fun S1 x hS1 hx => ?_⟩⟩
    subst hx
    refine ⟨8, by show IntKind.i64.wrap (1 * 8) = 8; decide, by decide, by decide, (8 : Int), trivial, rd_at (Store.rd_le hS1 hS) 0 _ rfl, And.intro (fun h => absurd h (by decide)) (fun _ => onF ?_)⟩
    exact ⟨16, by decide, 15, by decide, by decide, 1, by decide, 8, by decide, rfl, _, rfl, rfl⟩
  · refine ⟨by decide, by decide, (8 : Int), trivial, rd_at hS 1 _ rfl, ⟨_, rfl, rfl, rfl⟩, .inl ⟨_, _, _, many_spec S b 1 hp, fun S1 x hS1 hx => ?_⟩⟩
    subst hx
    refine ⟨8, by show IntKind.i64.wrap (1 * 8) = 8; decide, by decide, by decide, (8 : Int), trivial, rd_at (Store.rd_le hS1 hS) 1 _ rfl, And.intro (fun h => absurd h (by decide)) (fun _ => onF ?_)⟩
    exact ⟨16, by decide, 15, by decide, by decide, 1, by decide, 8, by decide, rfl, _, rfl, rfl⟩
  · refine ⟨by decide, by decide, (8 : Int), trivial, rd_at hS 2 _ rfl, ⟨_, rfl, rfl, rfl⟩, .inl ⟨_, _, _, many_spec S b 2 hp, fun S1 x hS1 hx => ?_⟩⟩
    subst hx
    refine ⟨8, by show IntKind.i64.wrap (1 * 8) = 8; decide, by decide, by decide, (8 : Int), trivial, rd_at (Store.rd_le hS1 hS) 2 _ rfl, And.intro (fun h => absurd h (by decide)) (fun _ => onF ?_)⟩
    exact ⟨16, by decide, 15, by decide, by decide, 1, by decide, 8, by decide, rfl, _, rfl, rfl⟩
  · refine ⟨by decide, by decide, (1 : Int), trivial, rd_at hS 3 _ rfl, ⟨_, rfl, rfl, rfl⟩, .inl ⟨_, _, _, many_spec S b 3 hp, fun S1 x hS1 hx => ?_⟩⟩
    subst hx
    refine ⟨8, by show IntKind.i64.wrap (8 * 1) = 8; decide, by decide, by decide, (1 : Int), trivial, rd_at (Store.rd_le hS1 hS) 3 _ rfl, And.intro (fun h => absurd h (by decide)) (fun _ => onF ?_)⟩
    exact ⟨16, by decide, 15, by decide, by decide, 1, by decide, 8, by decide, rfl, _, rfl, rfl⟩
  · refine ⟨by decide, by decide, (104 : Int), trivial, rd_at hS 4 _ rfl, ⟨_, rfl, rfl, rfl⟩, .inl ⟨_, _, _, many_spec S b 4 hp, fun S1 x hS1 hx => ?_⟩⟩
    subst hx
    refine ⟨104, by show IntKind.i64.wrap (1 * 104) = 104; decide, by decide, by decide, (104 : Int), trivial, rd_at (Store.rd_le hS1 hS) 4 _ rfl, And.intro (fun h => absurd h (by decide)) (fun _ => onF ?_)⟩
    exact ⟨112, by decide, 111, by decide, by decide, 13, by decide, 104, by decide, rfl, _, rfl, rfl⟩
  · refine ⟨by decide, by decide, (0 : Int), trivial, rd_at hS 5 _ rfl, ⟨_, rfl, rfl, rfl⟩, .inl ⟨_, _, _, many_spec S b 5 hp, fun S1 x hS1 hx => ?_⟩⟩
    obtain rfl : b = x := hx.symm
    refine ⟨0, by rw [Int.mul_zero]; decide, by decide, by decide, (0 : Int), trivial, rd_at (Store.rd_le hS1 hS) 5 _ rfl, And.intro (fun h => ?_) (fun h => absurd h (by decide))⟩
    refine ⟨⟨_, rfl, rfl, rfl⟩, .inl ⟨_, _, _, many_spec S1 b 5 hp, fun S2 x hS2 hx => ?_⟩⟩
    obtain rfl : b = x := hx.symm
    refine And.intro (fun h => ?_) (fun h => absurd h (by rw [decide_eq_true (by omega)]; decide))
    exact ⟨16, by decide, 15, by decide, by decide, 1, by decide, 8, by decide, rfl, _, rfl, rfl⟩
  · refine ⟨by decide, by decide, (32 : Int), trivial, rd_at hS 6 _ rfl, ⟨_, rfl, rfl, rfl⟩, .inl ⟨_, _, _, many_spec S b 6 hp, fun S1 x hS1 hx => ?_⟩⟩
    obtain rfl : b = x := hx.symm
    refine ⟨b * 32, wrap_i64 (by omega) (by omega), by decide, by decide, (32 : Int), trivial, rd_at (Store.rd_le hS1 hS) 6 _ rfl, And.intro (fun h => absurd h (by decide)) (fun _ => onF ?_)⟩
    have hq : (b * 32 + 8 - 1).tdiv 8 = 4 * b := by rw [Int.tdiv_eq_ediv_of_nonneg (by omega)]; omega
    exact ⟨b * 32 + 8, wrap_i64 (by omega) (by omega), b * 32 + 8 - 1, wrap_i64 (by omega) (by omega), by decide, 4 * b, by rw [hq]; exact wrap_i64 (by omega) (by omega), 32 * b, by rw [wrap_i64 (by omega) (by omega)]; omega, rfl, _, rfl, rfl⟩
theorem fromP_succ (b : Int) (hb : 1 ≤ b ∧ b ≤ 64) {p : Nat} (hp : p < 7) : fromP b p + longP b p = fromP b (p + 1) ∧ 0 ≤ fromP b (p + 1) ∧ fromP b (p + 1) ≤ 100000 := by
  rcases lt7 hp with rfl | rfl | rfl | rfl | rfl | rfl | rfl <;> simp [fromP, longP] <;> omega

theorem from_spec (S : Store) (b : Int) (hb : 1 ≤ b ∧ b ≤ 64) (hS : S.rd 0 0 sizesL) (p : Nat) (hp : p ≤ 7) : Pure Tryd.prog 31 S [vL b, .int .i64 p] rI (fun _ x => x = fromP b p) := by
  refine pure_vc agrees Tryd.func31 rfl rfl (fun S S' q hle h => h) ?_
  refine ⟨[], [], Nat, [5,6,8,9,10,11,12,13,14,15,16], fun x => [(5, rI (fromP b x)), (8, rI x)], fun x => [.box [.v (.int .i64 1), .v (.int .i64 8), .v (.int .i64 b)]], fun _ => S, fun x => x ≤ p, fun x => p - x, ?_⟩
  refine And.intro (Exists.intro 0 (And.intro (And.intro (And.intro ?_ rfl) (And.intro rfl (Store.le_refl _))) (Nat.zero_le _))) ?_
  · repeat' first | exact trivial | exact rfl | refine And.intro ?_ ?_
  refine fun x hx => ?_
  refine And.intro (fun h => ?_) (fun h => ?_)
  · have h : x < p := by have := of_decide_eq_true h; omega
    refine ⟨⟨_, rfl, rfl, rfl⟩, .inl ⟨_, _, _, long_spec S b hb hS x (by omega), fun S1 y hS1 hy => ?_⟩⟩
    subst hy
    obtain ⟨e1, e2, e3⟩ := fromP_succ b hb (p := x) (by omega)
    refine ⟨fromP b (x + 1), (by rw [e1]; exact wrap_i64 (by omega) (by omega)), x + 1, wrap_i64 (by omega) (by omega), ?_⟩
    refine Exists.intro (x + 1) (And.intro (And.intro (And.intro ?_ rfl) (And.intro rfl hS1)) (And.intro h (by show p - (x + 1) < p - x; omega)))
    repeat' first | exact trivial | exact rfl | refine And.intro ?_ ?_
  · obtain rfl : x = p := by have h := of_decide_eq_false h; have hx : x ≤ p := hx; omega
    exact ⟨rfl, _, rfl, rfl⟩
end Go.Proofs.YtmkbaeilfejbjaaDoor
