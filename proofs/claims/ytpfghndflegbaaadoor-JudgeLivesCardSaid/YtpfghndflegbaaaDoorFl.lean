/- law58: the reference's Do. -/
import Derived.Test.YtpfghndflegbaaaDoorFk
namespace Go.Proofs.YtpfghndflegbaaaDoor
open Go Go.Vc Go.Sort
set_option maxRecDepth 100000

@[reducible] def shCall : Shape := .st (.pair .str .slice)
@[reducible] def shAns : Shape := .st (.pair (.int .i64) (.int .i64))
def wWrite : ByteArray := bs [119, 114, 105, 116, 101]
def wRead : ByteArray := bs [114, 101, 97, 100]
def wAdd : ByteArray := bs [97, 100, 100]
def wSwap : ByteArray := bs [115, 119, 97, 112]
/-- A call of the register: the state behind it, and the answer. -/
def doE (n : Int) (nm : ByteArray) (xs : List Int) : Int × Ad :=
  if nm = wWrite then (xs.getD 0 0, (0, 0)) else if nm = wRead then (n, (0, n)) else if nm = wAdd then (IntKind.i64.wrap (n + xs.getD 0 0), (0, n))
  else if nm = wSwap then if n = xs.getD 0 0 then (xs.getD 1 0, (0, 1)) else (n, (0, 0)) else (n, (10, 0))
def a0 (xs : List Int) (i : Nat) : Int := if 0 < i then xs.getD 0 0 else 0
def a1 (xs : List Int) (i : Nat) : Int := if 1 < i then xs.getD 1 0 else 0
theorem do_spec (S : Store) (n : Int) (nm : ByteArray) (p : Hd) (xs : List Int) (hl : xs.length = p.2.1) (hr : RowRd S p.1 shI xs) :
    Pure Tryd.prog 30 S [.int .i64 n, shCall.val (nm, p)] (A := Unit) (fun _ => .tup [(false, [.v (.int .i64 (doE n nm xs).1)]), (true, shAns.cs (doE n nm xs).2)]) (fun _ _ => True) := by
  obtain ⟨p, m, c⟩ := p
  simp only at hl hr
  subst hl
  refine pure_vc agrees Tryd.func30 rfl rfl (fun S S' q hle h => h) ?_
  refine ⟨[], [], Nat, List.range' 8 18, fun i => [(7, rI i)], fun i => [.box (shCall.cs (nm, p, xs.length, c)), .box (shAns.cs (0, 0)), .box [.v (.int .i64 (a0 xs i)), .v (.int .i64 (a1 xs i))]], fun _ => S, fun i => i ≤ 2 ∧ i ≤ xs.length, fun i => 2 - i, ?_⟩
  refine And.intro (Exists.intro 0 (And.intro (And.intro (And.intro ?_ rfl) (And.intro rfl (Store.le_refl _))) ⟨by omega, by omega⟩)) ?_
  · repeat' first | exact trivial | exact rfl | refine And.intro ?_ ?_
  rintro i ⟨hi2, hil⟩
  have i0 : (0 : Int) ≤ ((i : Nat) : Int) := Int.natCast_nonneg _
  have done : (i = xs.length ∨ i = 2) → xs.getD 0 0 = a0 xs i ∧ xs.getD 1 0 = a1 xs i := by
    intro h
    unfold a0 a1
    constructor
    · split
      · rfl
      · rw [List.getD_eq_getElem?_getD, List.getElem?_eq_none (by omega)]; rfl
    · split
      · rfl
      · rw [List.getD_eq_getElem?_getD, List.getElem?_eq_none (by omega)]; rfl
  by_cases c1 : i < xs.length
  · refine onE (decide_eq_true (show ((i : Nat) : Int) < ((xs.length : Nat) : Int) by omega)) ?_
    by_cases c2 : i < 2
    · refine onE (decide_eq_true (show ((i : Nat) : Int) < 2 by omega)) ?_
      obtain ⟨y, hy⟩ : ∃ y, xs[i]? = some y := ⟨_, List.getElem?_eq_getElem c1⟩
      obtain ⟨b, o, hp, hok, hrd⟩ := row_at hr hy
      refine ⟨i0, by show ((i : Nat) : Int) < (xs.length : Int); omega, b, o, hp, y, hok, hrd, i0, by show ((i : Nat) : Int) < 2; omega, ?_⟩
      have hcase : i = 0 ∨ i = 1 := by omega
      rcases hcase with rfl | rfl
      · refine ⟨((0 + 1 : Nat) : Int), wrap_i64 (by omega) (by omega), 0 + 1, ⟨⟨?_, rfl⟩, ?_, Store.le_refl _⟩, ⟨by omega, c1⟩, by decide⟩
        · repeat' first | exact trivial | exact rfl | refine And.intro ?_ ?_
        · have : a0 xs 1 = y := by show xs.getD 0 0 = y; rw [List.getD_eq_getElem?_getD, hy]; rfl
          show [_, _, Res.box [.v (.int .i64 y), .v (.int .i64 0)]] = [_, _, Res.box [.v (.int .i64 (a0 xs 1)), .v (.int .i64 0)]]
          rw [this]
      · refine ⟨((1 + 1 : Nat) : Int), wrap_i64 (by omega) (by omega), 1 + 1, ⟨⟨?_, rfl⟩, ?_, Store.le_refl _⟩, ⟨by omega, c1⟩, by decide⟩
        · repeat' first | exact trivial | exact rfl | refine And.intro ?_ ?_
        · have : a1 xs 2 = y := by show xs.getD 1 0 = y; rw [List.getD_eq_getElem?_getD, hy]; rfl
          show [_, _, Res.box [.v (.int .i64 (a0 xs 1)), .v (.int .i64 y)]] = [_, _, Res.box [.v (.int .i64 (a0 xs 2)), .v (.int .i64 (a1 xs 2))]]
          rw [this]
          rfl
    · refine offE (decide_eq_false (show ¬ ((i : Nat) : Int) < 2 by omega)) ?_
      obtain ⟨h0, h1⟩ := done (.inr (by omega))
      have fin : ∀ {r : Int × Ad}, doE n nm xs = r → SV.tup [(false, [.v (.int .i64 (doE n nm xs).1)]), (true, shAns.cs (doE n nm xs).2)] = SV.tup [(false, [.v (.int .i64 r.1)]), (true, shAns.cs r.2)] := fun h => by rw [h]
      by_cases w1 : nm = wWrite
      · exact onE ((streq _ _).trans (decide_eq_true w1)) ⟨by decide, by decide, rfl, (), fin (r := (a0 xs i, (0, 0))) (by rw [doE, if_pos w1, h0]), trivial⟩
      refine offE ((streq _ _).trans (decide_eq_false w1)) ?_
      by_cases w2 : nm = wRead
      · exact onE ((streq _ _).trans (decide_eq_true w2)) ⟨rfl, (), fin (r := (n, (0, n))) (by rw [doE, if_neg w1, if_pos w2]), trivial⟩
      refine offE ((streq _ _).trans (decide_eq_false w2)) ?_
      by_cases w3 : nm = wAdd
      · exact onE ((streq _ _).trans (decide_eq_true w3)) ⟨by decide, by decide, _, rfl, rfl, (), fin (r := (IntKind.i64.wrap (n + a0 xs i), (0, n))) (by rw [doE, if_neg w1, if_neg w2, if_pos w3, h0]), trivial⟩
      refine offE ((streq _ _).trans (decide_eq_false w3)) ?_
      by_cases w4 : nm = wSwap
      · refine onE ((streq _ _).trans (decide_eq_true w4)) ⟨by decide, by decide, ?_⟩
        by_cases w5 : n = a0 xs i
        · exact onE (beq_iff_eq.2 w5) ⟨by decide, by decide, rfl, (), fin (r := (a1 xs i, (0, 1))) (by rw [doE, if_neg w1, if_neg w2, if_neg w3, if_pos w4, h0, if_pos w5, h1]), trivial⟩
        · exact offE (beq_eq_false_iff_ne.2 w5) ⟨rfl, (), fin (r := (n, (0, 0))) (by rw [doE, if_neg w1, if_neg w2, if_neg w3, if_pos w4, h0, if_neg w5]), trivial⟩
      exact offE ((streq _ _).trans (decide_eq_false w4)) ⟨rfl, (), fin (r := (n, (10, 0))) (by rw [doE, if_neg w1, if_neg w2, if_neg w3, if_neg w4]), trivial⟩
  · refine offE (decide_eq_false (show ¬ ((i : Nat) : Int) < ((xs.length : Nat) : Int) by omega)) (onF ?_)
    obtain ⟨h0, h1⟩ := done (.inl (by omega))
    have fin : ∀ {r : Int × Ad}, doE n nm xs = r → SV.tup [(false, [.v (.int .i64 (doE n nm xs).1)]), (true, shAns.cs (doE n nm xs).2)] = SV.tup [(false, [.v (.int .i64 r.1)]), (true, shAns.cs r.2)] := fun h => by rw [h]
    by_cases w1 : nm = wWrite
    · exact onE ((streq _ _).trans (decide_eq_true w1)) ⟨by decide, by decide, rfl, (), fin (r := (a0 xs i, (0, 0))) (by rw [doE, if_pos w1, h0]), trivial⟩
    refine offE ((streq _ _).trans (decide_eq_false w1)) ?_
    by_cases w2 : nm = wRead
    · exact onE ((streq _ _).trans (decide_eq_true w2)) ⟨rfl, (), fin (r := (n, (0, n))) (by rw [doE, if_neg w1, if_pos w2]), trivial⟩
    refine offE ((streq _ _).trans (decide_eq_false w2)) ?_
    by_cases w3 : nm = wAdd
    · exact onE ((streq _ _).trans (decide_eq_true w3)) ⟨by decide, by decide, _, rfl, rfl, (), fin (r := (IntKind.i64.wrap (n + a0 xs i), (0, n))) (by rw [doE, if_neg w1, if_neg w2, if_pos w3, h0]), trivial⟩
    refine offE ((streq _ _).trans (decide_eq_false w3)) ?_
    by_cases w4 : nm = wSwap
    · refine onE ((streq _ _).trans (decide_eq_true w4)) ⟨by decide, by decide, ?_⟩
      by_cases w5 : n = a0 xs i
      · exact onE (beq_iff_eq.2 w5) ⟨by decide, by decide, rfl, (), fin (r := (a1 xs i, (0, 1))) (by rw [doE, if_neg w1, if_neg w2, if_neg w3, if_pos w4, h0, if_pos w5, h1]), trivial⟩
      · exact offE (beq_eq_false_iff_ne.2 w5) ⟨rfl, (), fin (r := (n, (0, 0))) (by rw [doE, if_neg w1, if_neg w2, if_neg w3, if_pos w4, h0, if_neg w5]), trivial⟩
    exact offE ((streq _ _).trans (decide_eq_false w4)) ⟨rfl, (), fin (r := (n, (10, 0))) (by rw [doE, if_neg w1, if_neg w2, if_neg w3, if_neg w4]), trivial⟩
end Go.Proofs.YtpfghndflegbaaaDoor
