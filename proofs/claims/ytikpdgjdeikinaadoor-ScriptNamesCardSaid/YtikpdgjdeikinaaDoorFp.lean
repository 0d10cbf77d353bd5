/- law63: the law Names. -/
import Derived.Test.YtikpdgjdeikinaaDoorFo
namespace Go.Proofs.YtikpdgjdeikinaaDoor
open Go Go.Vc Go.Sort
set_option maxRecDepth 100000
set_option maxHeartbeats 8000000

theorem names_apart {i k : Nat} (hi : i < 16) (hk : k < i) : Sc.nameOf i ≠ Sc.nameOf k := fun h => by
  have h1 := Sc.op_name (op := (i : Int)) (Int.natCast_nonneg _) (by omega)
  have h2 := Sc.op_name (op := (k : Int)) (Int.natCast_nonneg _) (by omega)
  rw [h, h2] at h1
  omega
theorem law_names (S : Store) (hL : Lw S) (n : Int) : Pure Tryd.prog 5 S [.int .i64 n] rB (fun _ b => b = true) := by
  refine pure_vc agrees Tryd.func5 rfl rfl (fun S S' q hle h => h) ?_
  refine ⟨⟨_, rfl, rfl, rfl⟩, .inl ⟨_, _, _, name_spec S n, fun S1 _ hS1 _ => ?_⟩⟩
  refine ⟨⟨_, rfl, rfl, rfl⟩, .inl ⟨_, _, _, refName_spec S1 n, fun S2 _ hS2 _ => ?_⟩⟩
  have hL2 := (hL.le hS1).le hS2
  refine offE (ntT (isE rfl)) ?_
  refine ⟨[], [], Nat, [3, 4] ++ List.range' 11 19, fun i => [(10, rI i)], fun _ => [], fun _ => S2, fun i => i ≤ 16, fun i => 16 - i, ?_⟩
  refine And.intro (Exists.intro 0 (And.intro (And.intro (And.intro ?_ rfl) (And.intro rfl (Store.le_refl _))) (Nat.zero_le _))) ?_
  · repeat' first | exact trivial | exact rfl | refine And.intro ?_ ?_
  rintro i hi
  have hi : i ≤ 16 := hi
  refine And.intro (fun h => ?_) (fun h => ?_)
  · have hil : i < 16 := by
      have : ((i : Nat) : Int) < 16 := of_decide_eq_true h
      omega
    refine ⟨[], [], Nat, [4] ++ List.range' 15 13, fun k => [(14, rI k)], fun _ => [], fun _ => S2, fun k => k ≤ i, fun k => i - k, ?_⟩
    refine And.intro (Exists.intro 0 (And.intro (And.intro (And.intro ?_ rfl) (And.intro rfl (Store.le_refl _))) (Nat.zero_le _))) ?_
    · repeat' first | exact trivial | exact rfl | refine And.intro ?_ ?_
    rintro k hk
    have hk : k ≤ i := hk
    refine And.intro (fun h => ?_) (fun h => ?_)
    · have hkl : k < i := by
        have : ((k : Nat) : Int) < ((i : Nat) : Int) := of_decide_eq_true h
        omega
      refine ⟨⟨_, rfl, rfl, rfl⟩, .inl ⟨_, _, _, name_spec S2 i, fun S3 _ hS3 _ => ?_⟩⟩
      refine ⟨⟨_, rfl, rfl, rfl⟩, .inl ⟨_, _, _, name_spec S3 k, fun S4 _ hS4 _ => ?_⟩⟩
      refine offE (isN (names_apart hil hkl)) ⟨⟨_, rfl, rfl, rfl⟩, .inl ⟨_, _, _, name_spec S4 i, fun S5 _ hS5 _ => ?_⟩⟩
      refine offE (isN (name_ne (Int.natCast_nonneg _) (by omega))) ⟨((k + 1 : Nat) : Int), wrap_i64 (by omega) (by omega), k + 1, ⟨⟨?_, rfl⟩, rfl, Store.le_trans hS3 (Store.le_trans hS4 hS5)⟩, hkl, by show i - (k + 1) < i - k; omega⟩
      repeat' first | exact trivial | exact rfl | refine And.intro ?_ ?_
    · refine ⟨((i + 1 : Nat) : Int), wrap_i64 (by omega) (by omega), i + 1, ⟨⟨?_, rfl⟩, rfl, Store.le_refl _⟩, hil, by show 16 - (i + 1) < 16 - i; omega⟩
      repeat' first | exact trivial | exact rfl | refine And.intro ?_ ?_
  · exact ⟨⟨_, rfl, rfl, rfl⟩, .inl ⟨_, _, _, awake_spec S2 hL2, fun S3 _ hS3 _ => ⟨rfl, true, rfl, rfl⟩⟩⟩
end Go.Proofs.YtikpdgjdeikinaaDoor
