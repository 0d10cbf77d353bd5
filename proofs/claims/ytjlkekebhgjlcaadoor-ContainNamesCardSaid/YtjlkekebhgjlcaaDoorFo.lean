/- law29: the law Names says true. -/
import Derived.Test.YtjlkekebhgjlcaaDoorFr
namespace Go.Proofs.YtjlkekebhgjlcaaDoor
open Go Go.Vc
set_option maxRecDepth 100000

theorem names_at (i : Nat) (h : i < 8) : ∃ nm k f, names[i]? = some nm ∧ find nm = some (k, f) ∧ (k = 1 ∨ k = 2) := by
  match i, h with
  | 0, _ => exact ⟨_, _, _, rfl, rfl, .inl rfl⟩
  | 1, _ => exact ⟨_, _, _, rfl, rfl, .inl rfl⟩
  | 2, _ => exact ⟨_, _, _, rfl, rfl, .inl rfl⟩
  | 3, _ => exact ⟨_, _, _, rfl, rfl, .inl rfl⟩
  | 4, _ => exact ⟨_, _, _, rfl, rfl, .inr rfl⟩
  | 5, _ => exact ⟨_, _, _, rfl, rfl, .inr rfl⟩
  | 6, _ => exact ⟨_, _, _, rfl, rfl, .inl rfl⟩
  | 7, _ => exact ⟨_, _, _, rfl, rfl, .inr rfl⟩

theorem seg_row {S : Store} {q : Option Addr} {c : Nat} {l : List Int} (hr : RowRd S q shI l) (hpf : PForm q l.length c) (j : Nat) : RowRd S (if c = 0 then q else q.map fun p => addrAdd p (0 * ti2.sz)) shI (l.take j) := by
  have h := (hr.take j).drop (c := c) (k := 0) (sz := ti2.sz) (by
    rcases hpf with ⟨_, h, _⟩ | ⟨g, _, h⟩
    · rw [List.length_take]; omega
    · rw [List.length_take]; omega) rfl
  simpa using h

set_option maxHeartbeats 1000000 in
theorem law_names (S : Store) (hT : Tab S) (x y : Int) (hx : inI64 x) (hy : inI64 y) :
    Pure Tryd.prog 7 S [.int .i64 x, .int .i64 y] rB (fun _ x => x = true) := by
  refine pure_vc agrees Tryd.func7 rfl rfl (fun S S' q hle h => h) ?_
  refine ⟨⟨_, rfl, rfl, rfl⟩, .inl ⟨_, _, _, names_spec S, fun S1 p hS1 hp => ?_⟩⟩
  obtain ⟨p, m, c⟩ := p
  obtain ⟨hp1, hp2⟩ := hp
  simp only at hp1 hp2
  subst hp1
  refine offE rfl ?_
  refine ⟨[], [], Nat, List.range' 7 17 ++ List.range' 34 120, fun i => [(33, rI i)], fun _ => [.row .str 9 names], fun _ => S1, fun i => i ≤ 8, fun i => 8 - i, ?_⟩
  refine And.intro (Exists.intro 0 (And.intro (And.intro (And.intro ?_ rfl) (And.intro rfl (Store.le_refl _))) (Nat.zero_le _))) ?_
  · repeat' first | exact trivial | exact rfl | refine And.intro ?_ ?_
  rintro i hi
  have i0 : (0 : Int) ≤ ((i : Nat) : Int) := Int.natCast_nonneg _
  refine And.intro (fun h => ?_) (fun h => ?_)
  · have hil : i < 8 := by
      have : ((i : Nat) : Int) < ((8 : Nat) : Int) := of_decide_eq_true h
      omega
    obtain ⟨nm, k, f, hnm, hf, hk⟩ := names_at i hil
    have hil2 : ((i : Nat) : Int) < ((names.length : Nat) : Int) := by show ((i : Nat) : Int) < ((8 : Nat) : Int); omega
    refine ⟨i0, hil2, nm, hnm, ⟨_, rfl, rfl, rfl⟩, .inl ⟨_, _, _, args_spec S1 nm, fun S2 r hS2 hr => ?_⟩⟩
    rw [mget_host, hf] at hr
    obtain rfl : r = (k, true) := hr
    obtain ⟨b, o, hp, hok, hrd⟩ := row_at hp2 hnm
    have hrd2 := Store.rd_le hS2 hrd
    refine ⟨i0, by show ((i : Nat) : Int) < ((8 : Nat) : Int); omega, b, o, hp, nm, hok, hrd2, ?_⟩
    refine offE (by rw [streq, decide_eq_true rfl]; rfl) (offE rfl (offE (decide_eq_false (by show ¬ k < 1; omega)) (offE (decide_eq_false (by show ¬ k > 2; omega)) ?_)))
    refine ⟨by show 0 ≤ k; omega, Nat.zero_le _, by show k.toNat ≤ 3; omega, ⟨_, rfl, rfl, rfl⟩, .inl fun q c1 S3 hS3 hr3 hpf => ?_⟩
    have hT3 := hT.le (Store.le_trans hS1 (Store.le_trans hS2 hS3))
    have hin : ∀ j, ∀ z ∈ [x, y, x].take j, inI64 z := fun j z hz => by
      have := List.mem_of_mem_take hz
      simp only [List.mem_cons, List.not_mem_nil, or_false] at this
      rcases this with rfl | rfl | rfl
      · exact hx
      · exact hy
      · exact hx
    have hlen : ∀ j, j ≤ 3 → ([x, y, x].take j).length = j := fun j hj => by rw [List.length_take]; show min j 3 = j; omega
    refine ⟨_, _, _, call_spec S3 hT3 nm (_, k.toNat - 0, _) ([x, y, x].take k.toNat) (hlen _ (by omega)) (seg_row hr3 hpf _) (hin _) (by rw [hlen _ (by omega)]; omega), fun S4 r hS4 hr4 => ?_⟩
    have hcap : 3 ≤ c1 := by
      rcases hpf with ⟨_, h, _⟩ | ⟨g, _, h⟩
      · cases h
      · exact h
    refine ⟨k + 1, wrap_i64 (by show _ ≤ k + 1; omega) (by show k + 1 ≤ _; omega), by omega, by omega, ⟨_, rfl, rfl, rfl⟩, .inl ⟨_, _, _, call_spec S4 (hT3.le hS4) nm (_, (k + 1).toNat, _) ([x, y, x].take (k + 1).toNat) (hlen _ (by omega)) ((hr3.le hS4).take _) (hin _) (by rw [hlen _ (by omega)]; omega), fun S5 r2 hS5 hr5 => ?_⟩⟩
    refine ⟨k - 1, wrap_i64 (by show _ ≤ k - 1; omega) (by show k - 1 ≤ _; omega), by omega, by omega, ⟨_, rfl, rfl, rfl⟩, .inl ⟨_, _, _, call_spec S5 (hT3.le (Store.le_trans hS4 hS5)) nm (_, (k - 1).toNat, _) ([x, y, x].take (k - 1).toNat) (hlen _ (by omega)) ((hr3.le (Store.le_trans hS4 hS5)).take _) (hin _) (by rw [hlen _ (by omega)]; omega), fun S6 r3 hS6 hr6 => ?_⟩⟩
    have e1 : r.2.1 = 0 ∨ r.2.1 = 20 := by
      rw [hr4, callR_eq hf (by rw [hlen _ (by omega)]; omega)]
      by_cases h : (hostR f (List.take k.toNat [x, y, x])).2.2 = true
      · exact .inl (if_pos h)
      · exact .inr (if_neg h)
    have e2 : r2 = (0, 1, ByteArray.empty) := by rw [hr5]; exact callR_len hf (by rw [hlen _ (by omega)]; omega)
    have e3 : r3 = (0, 1, ByteArray.empty) := by rw [hr6]; exact callR_len hf (by rw [hlen _ (by omega)]; omega)
    subst e2 e3
    refine offE (by rcases e1 with e | e <;> rw [e] <;> rfl) (offE rfl (offE rfl ?_))
    refine ⟨((i + 1 : Nat) : Int), wrap_i64 (by omega) (by omega), i + 1, ⟨⟨?_, rfl⟩, rfl, ?_⟩, by show i + 1 ≤ 8; omega, by show 8 - (i + 1) < 8 - i; omega⟩
    · repeat' first | exact trivial | exact rfl | refine And.intro ?_ ?_
    · exact Store.le_trans hS2 (Store.le_trans hS3 (Store.le_trans hS4 (Store.le_trans hS5 hS6)))
  · refine ⟨⟨_, rfl, rfl, rfl⟩, .inl ⟨_, _, _, guard_nil S1, fun S2 r hS2 _ => ?_⟩⟩
    refine ⟨⟨_, rfl, rfl, rfl⟩, .inl ⟨_, _, _, awake_spec S2 (hT.le (Store.le_trans hS1 hS2)), fun S4 y hS4 hy => ?_⟩⟩
    obtain rfl : y = true := hy
    exact onT (onE rfl (onE (by rw [streq]; exact decide_eq_true rfl) ⟨rfl, _, rfl, rfl⟩))
end Go.Proofs.YtjlkekebhgjlcaaDoor
