/- law16, LeakMends: is a block's number out of range? -/
import Derived.Test.YtmkbaeilfejbjaaDoorGb
namespace Go.Proofs.YtmkbaeilfejbjaaDoor
open Go Go.Vc
set_option maxRecDepth 100000

@[reducible] def bad (b : Int) (i : Int) : Bool := decide (i < 0) || decide (i ≥ b)
theorem bad_spec (S : Store) (b : Int) (B : Nat) (hB : S.rd B 0 [.int .i64 1, .int .i64 8, .int .i64 b]) (i : Int) :
    Pure Tryd.prog 17 S [.int .i64 i, .pointer (some ⟨B, 0, none⟩)] rB (fun _ x => x = bad b i) := by
  refine pure_vc agrees Tryd.func17 rfl rfl (fun S S' q hle h => h) ?_
  refine And.intro (fun h => ?_) (fun h => ?_)
  · exact ⟨rfl, _, rfl, by rw [bad, h]; rfl⟩
  · exact ⟨b, trivial, rd_at hB 2 _ rfl, rfl, _, rfl, by rw [bad, h]; rfl⟩
@[reducible] def fnV (g : Nat) (first caps : Array Value) : Value := .func (.func g) first caps
theorem onE {b : Bool} {p q : Prop} (hb : b = true) (h : p) : (b = true → p) ∧ (b = false → q) := ⟨fun _ => h, fun e => by rw [hb] at e; cases e⟩

/-- What a predicate that is handed on says of each element. -/
def Says (S : Store) (g : Nat) (first caps : Array Value) {α : Type} (val : α → Value) (xs : List α) (φ : α → Bool) : Prop :=
  Enters Tryd.prog g ∧ (first.toList.all argOk) = true ∧ (∀ v ∈ caps, v.oneCell' = true) ∧ ∀ x ∈ xs, Pure Tryd.prog g S (first.toList ++ [val x] ++ caps.toList) rB (fun _ b => b = φ x)

/-- The captured values, as they come. -/
theorem plain_vals : ∀ {l : List Value}, vcCalls.capVals (l.map fun x => SV.c (.v x)) = some l
  | [] => rfl
  | x :: xs => by
    show (match vcCalls.capVals (xs.map fun x => SV.c (.v x)) with | some ys => some (x :: ys) | none => none) = _
    rw [plain_vals]

set_option maxHeartbeats 1000000 in
theorem indexI_spec (S : Store) (p : Hd) (xs : List Int) (g : Nat) (first caps : Array Value) (φ : Int → Bool) (hl : xs.length = p.2.1) (hr : RowRd S p.1 shI xs) (hn : xs.length ≤ 1000000) (hs : Says S g first caps (Value.int .i64) xs φ) :
    Pure Tryd.prog 29 S [slV p, fnV g first caps] rI (fun _ k => decide (k ≥ 0) = xs.any φ) := by
  obtain ⟨p, k, c⟩ := p
  simp only at hl hr
  subst hl
  obtain ⟨hE, h1, h2, hφ⟩ := hs
  refine pure_vc agrees Tryd.func29 rfl rfl (fun S S' q hle h => h) ?_
  refine ⟨[], [], Nat, [5] ++ List.range' 9 60, fun i => [(8, rI i)], fun _ => [], fun _ => S, fun i => i ≤ xs.length ∧ ∀ x ∈ xs.take i, φ x = false, fun i => xs.length - i, ?_⟩
  refine And.intro (Exists.intro 0 (And.intro (And.intro (And.intro ?_ rfl) (And.intro rfl (Store.le_refl _))) ⟨Nat.zero_le _, by simp⟩)) ?_
  · repeat' first | exact trivial | exact rfl | refine And.intro ?_ ?_
  rintro i ⟨hi, htk⟩
  have i0 : (0 : Int) ≤ ((i : Nat) : Int) := Int.natCast_nonneg _
  refine And.intro (fun h => ?_) (fun h => ?_)
  · have hil : i < xs.length := by
      have : ((i : Nat) : Int) < ((xs.length : Nat) : Int) := of_decide_eq_true h
      omega
    have i1 : ((i : Nat) : Int) < ((xs.length : Nat) : Int) := by omega
    have hx : xs[i]? = some xs[i] := List.getElem?_eq_getElem hil
    have hxm : xs[i] ∈ xs := List.getElem_mem hil
    obtain ⟨x, hxx⟩ : ∃ x, xs[i] = x := ⟨_, rfl⟩
    rw [hxx] at hx hxm
    obtain ⟨b1, o, hp, hok, hrd⟩ := row_at hr hx
    refine ⟨i0, i1, b1, o, hp, x, trivial, hrd, g, first, caps, rfl, h1, h2, hE, .inl ?_⟩
    rw [plain_vals]
    refine ⟨_, _, _, hφ x hxm, fun S1 b hS1 hb => ?_⟩
    have hb : b = φ x := hb
    refine And.intro (fun e => ?_) (fun e => ?_)
    · refine ⟨rfl, _, rfl, ?_⟩
      show decide (((i : Nat) : Int) ≥ 0) = xs.any φ
      rw [decide_eq_true i0]
      exact (List.any_eq_true.2 ⟨x, hxm, by rw [← hb, e]⟩).symm
    · refine ⟨((i + 1 : Nat) : Int), wrap_i64 (by omega) (by omega), i + 1, ⟨⟨?_, rfl⟩, rfl, hS1⟩, ⟨hil, ?_⟩, ?_⟩
      · repeat' first | exact trivial | exact rfl | refine And.intro ?_ ?_
      · intro y hy
        rw [List.take_add_one, hx] at hy
        rcases List.mem_append.1 hy with hy | hy
        · exact htk y hy
        · have : y = x := by simpa using hy
          rw [this, ← hb, e]
      · show xs.length - (i + 1) < xs.length - i
        omega
  · have hil : i = xs.length := by
      have : ¬ ((i : Nat) : Int) < ((xs.length : Nat) : Int) := of_decide_eq_false h
      omega
    rw [hil, List.take_length] at htk
    refine ⟨rfl, _, rfl, ?_⟩
    show decide ((-1 : Int) ≥ 0) = xs.any φ
    rw [show xs.any φ = false from List.any_eq_false.2 fun x hx => by rw [htk x hx]; simp]
    rfl

theorem hasI_spec (S : Store) (p : Hd) (xs : List Int) (g : Nat) (first caps : Array Value) (φ : Int → Bool) (hl : xs.length = p.2.1) (hr : RowRd S p.1 shI xs) (hn : xs.length ≤ 1000000) (hs : Says S g first caps (Value.int .i64) xs φ) :
    Pure Tryd.prog 16 S [slV p, fnV g first caps] rB (fun _ b => b = xs.any φ) := by
  refine pure_vc agrees Tryd.func16 rfl rfl (fun S S' q hle h => h) ?_
  exact ⟨⟨_, rfl, rfl, rfl⟩, .inl ⟨_, _, _, indexI_spec S p xs g first caps φ hl hr hn hs, fun S1 k hS1 hk => ⟨rfl, _, rfl, hk⟩⟩⟩

end Go.Proofs.YtmkbaeilfejbjaaDoor
