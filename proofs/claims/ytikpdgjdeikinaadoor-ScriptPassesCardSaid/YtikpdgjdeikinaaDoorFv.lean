/- law63: the law Passes. -/
import Derived.Test.YtikpdgjdeikinaaDoorFo
import Derived.Test.YtikpdgjdeikinaaDoorPd
namespace Go.Proofs.YtikpdgjdeikinaaDoor
open Go Go.Vc Go.Sort
set_option maxRecDepth 100000
set_option maxHeartbeats 8000000

/-- Skipped lines ahead of the first i lines. -/
def addW (sk : List Nat) : Nat → Nat
  | 0 => 0
  | i + 1 => addW sk i + Sc.cnt sk i
theorem before_add (sk : List Nat) : ∀ n, Sc.before sk n = n + addW sk n
  | 0 => rfl
  | n + 1 => by rw [Sc.before, before_add sk n, addW]; omega
theorem cnt_out {sk : List Nat} {j : Nat} (h : sk.length ≤ j) : Sc.cnt sk j = 0 := by
  unfold Sc.cnt
  rw [List.getD_eq_getElem?_getD, List.getElem?_eq_none h]; rfl
theorem addW_out {sk : List Nat} : ∀ {n : Nat}, sk.length ≤ n → addW sk n = addW sk sk.length := by
  intro n h
  obtain ⟨k, rfl⟩ := Nat.exists_eq_add_of_le h
  clear h
  induction k with
  | zero => rfl
  | succ k ih =>
    show addW sk (sk.length + k) + Sc.cnt sk (sk.length + k) = _
    rw [cnt_out (by omega), ih]; rfl
theorem addW_le (sk : List Nat) : ∀ n, addW sk n ≤ 2 * n
  | 0 => Nat.le_refl _
  | n + 1 => by
    have h := addW_le sk n
    have : Sc.cnt sk n < 3 := Nat.mod_lt _ (by decide)
    show addW sk n + Sc.cnt sk n ≤ _
    omega
theorem cnt_at {xs : List Int} {i : Nat} {x : Int} (h : xs[i]? = some x) (hx : 0 ≤ x ∧ x ≤ 255) : x % 3 = ((Sc.cnt (xs.map Int.toNat) i : Nat) : Int) := by
  unfold Sc.cnt
  rw [List.getD_eq_getElem?_getD, List.getElem?_map, h]
  show x % 3 = ((x.toNat % 3 : Nat) : Int)
  have : ((x.toNat : Nat) : Int) = x := Int.toNat_of_nonneg hx.1
  omega
theorem before_spec (S : Store) (p : Option Addr) (nn c : Nat) (xs : List Int) (hn : nn = xs.length) (hr : RowRd S p (.int .u8) xs) (hx : ∀ x ∈ xs, 0 ≤ x ∧ x ≤ 255) (hl : xs.length ≤ 30) (n : Nat) (hm : n ≤ 1000000) :
    SpecR Tryd.prog 13 S [.box [.v (.slice p nn c)]] [.c (.v (.int .i64 n)), .c (.ptr 0 0)] (A := Unit) (fun _ => .c (.v (.int .i64 ((Sc.before (xs.map Int.toNat) n : Nat) : Int)))) (fun _ => [.box [.v (.slice p nn c)]]) (fun _ _ => True) := by
  subst hn
  have hsl : (xs.map Int.toNat).length = xs.length := List.length_map _
  generalize hsk : xs.map Int.toNat = sk at *
  refine specR_of_vc agrees Tryd.func13 rfl (fun S S' q hle h => h) ?_
  refine ⟨[], [], Nat, List.range' 7 19, fun i => [(4, rI ((n + addW sk i : Nat) : Int)), (5, rI i)], fun _ => [.box [.v (.slice p xs.length c)]], fun _ => S, fun i => i ≤ n ∧ i ≤ xs.length, fun i => xs.length - i, ?_⟩
  refine And.intro (Exists.intro 0 (And.intro (And.intro (And.intro ?_ rfl) (And.intro rfl (Store.le_refl _))) ⟨Nat.zero_le _, Nat.zero_le _⟩)) ?_
  · repeat' first | exact trivial | exact rfl | refine And.intro ?_ ?_
  rintro i ⟨hi, hil⟩
  have hi : i ≤ n := hi
  have hil : i ≤ xs.length := hil
  have i0 : (0 : Int) ≤ ((i : Nat) : Int) := Int.natCast_nonneg _
  have fin : (i = n ∨ i = xs.length) → n + addW sk i = Sc.before sk n := by
    intro h
    rw [before_add]
    rcases h with rfl | rfl
    · rfl
    · rw [← hsl, addW_out (n := n) (by omega)]
  by_cases hin : i < n
  · refine onE (decide_eq_true (show ((i : Nat) : Int) < ((n : Nat) : Int) by omega)) (And.intro (fun h => ?_) (fun h => ?_))
    · have hix : i < xs.length := by
        have : ((i : Nat) : Int) < ((xs.length : Nat) : Int) := of_decide_eq_true h
        omega
      obtain ⟨x, hxi⟩ : ∃ x, xs[i]? = some x := ⟨_, List.getElem?_eq_getElem hix⟩
      obtain ⟨b, o, hp, hok, hrd⟩ := row_at hr (i := i) (x := x) hxi
      have hxx := hx x (List.mem_of_getElem? hxi)
      have hmod : x.tmod 3 = x % 3 := Int.tmod_eq_emod_of_nonneg hxx.1
      have hc := cnt_at hxi hxx
      rw [hsk] at hc
      have hb := addW_le sk i
      have hsum : ((n + addW sk i : Nat) : Int) + x % 3 = ((n + addW sk (i + 1) : Nat) : Int) := by
        show _ = ((n + (addW sk i + Sc.cnt sk i) : Nat) : Int)
        omega
      refine ⟨i0, by show ((i : Nat) : Int) < (xs.length : Int); omega, b, o, hp, x, hok, hrd, ?_⟩
      refine ⟨by decide, x % 3, hmod, x % 3, wrap_i64 (by omega) (by omega), ((n + addW sk (i + 1) : Nat) : Int), ?_, ((i + 1 : Nat) : Int), wrap_i64 (by omega) (by omega), i + 1, ⟨⟨?_, rfl⟩, rfl, Store.le_refl _⟩, ⟨hin, hix⟩, by show xs.length - (i + 1) < xs.length - i; omega⟩
      · rw [hsum]; exact wrap_i64 (by omega) (by omega)
      · repeat' first | exact trivial | exact rfl | refine And.intro ?_ ?_
    · have hix : i = xs.length := by
        have : ¬ ((i : Nat) : Int) < ((xs.length : Nat) : Int) := of_decide_eq_false h
        omega
      refine ⟨rfl, (), ?_, rfl, rfl, trivial⟩
      rw [fin (.inr hix)]; rfl
  · refine offE (decide_eq_false (show ¬ ((i : Nat) : Int) < ((n : Nat) : Int) by omega)) (onF ⟨rfl, (), ?_, rfl, rfl, trivial⟩)
    rw [fin (.inl (by omega))]; rfl
end Go.Proofs.YtikpdgjdeikinaaDoor
