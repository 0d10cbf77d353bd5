/- law07: the program's reading of a line. -/
import Derived.Test.YtlecojgodkidkaaDoorFc
namespace Go.Proofs.YtlecojgodkidkaaDoor
open Go Go.Vc
set_option maxRecDepth 100000

@[reducible] def shK : Shape := .st (.pair .str (.pair .bool .bool))
abbrev Kd := ByteArray × Bool × Bool
@[reducible] def vK (x : Kd) : Value := .agg #[.string x.1, .bool x.2.1, .bool x.2.2]
def wStep : List UInt8 := [115, 116, 101, 112]
def wStop : List UInt8 := [115, 116, 111, 112]
def wCrash : List UInt8 := [99, 114, 97, 115, 104]
def kindL : List Kd := [(bs wStep, true, true), (bs wStop, true, false), (bs wCrash, false, true)]
/-- The number of a keyword. -/
def kindOf (w : List UInt8) : Int := if w = wStep then 0 else if w = wStop then 1 else if w = wCrash then 2 else -1

theorem clo_spec (S : Store) (x : Kd) (b : Nat) (p : Option Addr) (n c : Nat) (w : List UInt8) (ws : List ByteArray) (hb : S.rd b 0 [.slice p n c]) (hn : n = (bs w :: ws).length) (hr : RowRd S p .str (bs w :: ws)) :
    Pure Tryd.prog 44 S [vK x, .pointer (some ⟨b, 0, none⟩)] rB (fun _ k => k = decide (x.1 = bs w)) := by
  refine pure_vc agrees Tryd.func44 rfl rfl (fun S S' q hle h => h) ?_
  obtain ⟨b2, o2, hp, hok, hrd⟩ := row_at hr (i := 0) rfl
  refine ⟨or44_1, [], oF44_1, by kernel_rfl, ?_⟩
  refine ⟨(p, n, c), trivial, hb, ?_⟩
  refine ⟨by decide, by rw [hn]; simp, b2, o2, hp, bs w, trivial, hrd, ?_⟩
  exact ⟨rfl, _, rfl, by rw [streq]⟩
theorem find_spec (S : Store) (b b0 : Nat) (p : Option Addr) (n c : Nat) (w : List UInt8) (ws : List ByteArray) (hb : S.rd b 0 [.slice p n c]) (hn : n = (bs w :: ws).length) (hr : RowRd S p .str (bs w :: ws)) (hk : RowRd S (some ⟨b0, 0, none⟩) shK kindL) :
    Pure Tryd.prog 43 S [.slice (some ⟨b0, 0, none⟩) 3 3, .func (.func 44) #[] #[.pointer (some ⟨b, 0, none⟩)]] rI (fun _ k => k = kindOf w) := by
  refine pure_vc agrees Tryd.func43 rfl rfl (fun S S' q hle h => h) ?_
  refine ⟨[], [], Nat, [5] ++ List.range' 9 60, fun i => [(8, rI i)], fun _ => [], fun _ => S, fun i => i ≤ 3 ∧ ∀ j x, j < i → kindL[j]? = some x → x.1 ≠ bs w, fun i => 3 - i, ?_⟩
  refine And.intro (Exists.intro 0 (And.intro (And.intro (And.intro ?_ rfl) (And.intro rfl (Store.le_refl _))) ⟨Nat.zero_le _, fun j x h => absurd h (Nat.not_lt_zero _)⟩)) ?_
  · repeat' first | exact trivial | exact rfl | refine And.intro ?_ ?_
  rintro i ⟨hi, hno⟩
  have i0 : (0 : Int) ≤ ((i : Nat) : Int) := Int.natCast_nonneg _
  refine And.intro (fun h => ?_) (fun h => ?_)
  · have hil : i < 3 := by
      have : ((i : Nat) : Int) < ((3 : Nat) : Int) := of_decide_eq_true h
      omega
    obtain ⟨x, hx⟩ : ∃ x, kindL[i]? = some x := ⟨_, List.getElem?_eq_getElem hil⟩
    obtain ⟨b2, o2, hp2, hok, hrd⟩ := row_at hk hx
    refine ⟨i0, by show ((i : Nat) : Int) < ((3 : Nat) : Int); omega, b2, o2, hp2, x, hok, hrd, ?_⟩
    refine ⟨_, _, _, rfl, rfl, by simp [Value.oneCell'], ?_⟩
    refine ⟨⟨_, rfl, rfl, rfl⟩, .inl ⟨_, _, _, clo_spec S x b p n c w ws hb hn hr, fun S1 k hS1 hk1 => ?_⟩⟩
    obtain rfl : k = decide (x.1 = bs w) := hk1
    by_cases hxw : x.1 = bs w
    · refine onE (decide_eq_true hxw) ⟨rfl, _, rfl, ?_⟩
      have h3 : i = 0 ∨ i = 1 ∨ i = 2 := by omega
      rcases h3 with rfl | rfl | rfl
      · obtain rfl : _ = x := Option.some.inj hx
        have := bs_inj.1 hxw
        simp [kindOf, ← this]
      · obtain rfl : _ = x := Option.some.inj hx
        have := bs_inj.1 hxw
        simp [kindOf, ← this, wStep, wStop]
      · obtain rfl : _ = x := Option.some.inj hx
        have := bs_inj.1 hxw
        simp [kindOf, ← this, wStep, wStop, wCrash]
    · refine offE (decide_eq_false hxw) ?_
      refine ⟨((i + 1 : Nat) : Int), wrap_i64 (by omega) (by omega), i + 1, ⟨⟨?_, rfl⟩, rfl, hS1⟩, ⟨hil, ?_⟩, by show 3 - (i + 1) < 3 - i; omega⟩
      · repeat' first | exact trivial | exact rfl | refine And.intro ?_ ?_
      · intro j y hj hy
        rcases Nat.lt_succ_iff_lt_or_eq.1 hj with hj | rfl
        · exact hno j y hj hy
        · rw [hx] at hy; obtain rfl := Option.some.inj hy; exact hxw
  · have hil : i = 3 := by
      have : ¬ ((i : Nat) : Int) < ((3 : Nat) : Int) := of_decide_eq_false h
      omega
    subst hil
    refine ⟨rfl, -1, rfl, ?_⟩
    have h1 := hno 0 _ (by omega) rfl
    have h2 := hno 1 _ (by omega) rfl
    have h3 := hno 2 _ (by omega) rfl
    simp only [ne_eq, bs_inj] at h1 h2 h3
    rw [kindOf, if_neg (fun e => h1 e.symm), if_neg (fun e => h2 e.symm), if_neg (fun e => h3 e.symm)]
end Go.Proofs.YtlecojgodkidkaaDoor
