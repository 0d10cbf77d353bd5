/- law16, LeakMends: the initial words. -/
import Derived.Test.YtmkbaeilfejbjaaDoorGp
namespace Go.Proofs.YtmkbaeilfejbjaaDoor
open Go Go.Vc
set_option maxRecDepth 100000

@[reducible] def shW : Shape := .st (.pair (.int .i64) (.pair (.int .u32) (.int .u32)))
theorem first_spec (S : Store) (b : Int) (hb : 1 ≤ b ∧ b ≤ 64) (hS : S.rd 0 0 sizesL) :
    Pure Tryd.prog 6 S [vL b] (A := Hd × List Wd) (fun q => .c (.v (slV q.1))) (fun S' q => q.1.2.1 = q.2.length ∧ q.1.2.1 ≤ q.1.2.2 ∧ (q.2.length : Int) = 144 + 32 * b ∧ RowRd S' q.1.1 shW q.2) := by
  refine pure_vc agrees Tryd.func6 rfl rfl (fun S S' q hle h => ⟨h.1, h.2.1, h.2.2.1, h.2.2.2.le hle⟩) ?_
  refine ⟨⟨_, rfl, rfl, rfl⟩, .inl ⟨_, _, _, right_spec S b hb hS, fun S1 x hS1 hx => ?_⟩⟩
  obtain rfl : true = x := hx.symm
  refine onF ⟨⟨_, rfl, rfl, rfl⟩, .inl ⟨_, _, _, size_spec S1 b hb (Store.rd_le hS1 hS), fun S2 x hS2 hx => ?_⟩⟩
  obtain rfl : 144 + 32 * b = x := hx.symm
  have h2 := Store.le_trans hS1 hS2
  refine ⟨by omega, by omega, by show (16 : Int) * _ ≤ _; omega, by omega, ?_⟩
  have hlen : ((List.replicate (144 + 32 * b).toNat ((0, 0, 0) : Wd)).length : Int) = 144 + 32 * b := by rw [List.length_replicate]; omega
  generalize hw0 : List.replicate (144 + 32 * b).toNat ((0, 0, 0) : Wd) = w0 at hlen
  refine ⟨⟨_, rfl, rfl, rfl⟩, .inl ⟨_, _, _, era_spec S2 b hb (Store.rd_le h2 hS), fun S3 x hS3 hx => ?_⟩⟩
  obtain rfl : 1 = x := hx.symm
  obtain ⟨x1, hx1⟩ : ∃ x, w0[1]? = some x := ⟨w0[1]'(by omega), List.getElem?_eq_getElem (by omega)⟩
  have h3 := Store.le_trans h2 hS3
  subst hw0
  refine ⟨by decide, Eq.subst (motive := fun z : Int => 1 < z) hlen.symm (show (1 : Int) < 144 + 32 * b by omega), x1, (1, x1.2), hx1, ⟨trivial, trivial, trivial⟩, rfl, by decide, ?_⟩
  refine ⟨[], [], Int × List Wd × Store, List.range' 4 60, fun x => [(4, rI x.1)], fun x => [.box [.v (.int .i64 1), .v (.int .i64 8), .v (.int .i64 b)], .row shW 37 x.2.1], fun x => x.2.2, fun x => (1 ≤ x.1 ∧ x.1 ≤ 2) ∧ (x.2.1.length : Int) = 144 + 32 * b ∧ x.2.2.rd 0 0 sizesL, fun x => (2 - x.1).toNat, ?_⟩
  refine And.intro (Exists.intro (1, (List.replicate (144 + 32 * b).toNat ((0, 0, 0) : Wd)).set 1 (1, x1.2), S3) (And.intro (And.intro (And.intro ?_ rfl) (And.intro rfl (Store.le_refl _))) ⟨⟨Int.le_refl 1, (by decide : (1 : Int) ≤ 2)⟩, by rw [List.length_set]; exact hlen, Store.rd_le h3 hS⟩)) ?_
  · repeat' first | exact trivial | exact rfl | refine And.intro ?_ ?_
  refine fun x hx => ?_
  obtain ⟨k, xs, T⟩ := x
  obtain ⟨⟨hk1, hk2⟩, hxl, hT⟩ := hx
  simp only at hk1 hk2 hxl hT
  refine And.intro (fun h => ?_) (fun h => ?_)
  · have h : k ≤ 1 := of_decide_eq_true h
    obtain rfl : k = 1 := by omega
    refine ⟨⟨_, rfl, rfl, rfl⟩, .inl ⟨_, _, _, slot_spec T b hb hT, fun T1 x hT1 hx => ?_⟩⟩
    obtain rfl : 32 = x := hx.symm
    obtain ⟨x1, hx1⟩ : ∃ x, xs[32]? = some x := ⟨xs[32]'(by omega), List.getElem?_eq_getElem (by omega)⟩
    refine ⟨by decide, Eq.subst (motive := fun z : Int => 32 < z) hxl.symm (show (32 : Int) < 144 + 32 * b by omega), x1, (2, x1.2), hx1, ⟨trivial, trivial, trivial⟩, rfl, by decide, ?_⟩
    refine ⟨2, (by decide : IntKind.i64.wrap (1 + 1) = 2), ?_⟩
    refine Exists.intro (2, xs.set 32 (2, x1.2), T1) (And.intro (And.intro (And.intro ?_ rfl) (And.intro rfl (Store.le_refl _))) ⟨⟨⟨by show (1 : Int) ≤ 2; decide, Int.le_refl 2⟩, by rw [List.length_set]; exact hxl, Store.rd_le hT1 hT⟩, (by decide : (2 - (2 : Int)).toNat < (2 - (1 : Int)).toNat)⟩)
    repeat' first | exact trivial | exact rfl | refine And.intro ?_ ?_
  refine ⟨[], [], Nat × List Wd × Store, List.range' 4 60, fun x => [(30, .c (.v (.int .i64 b))), (31, rI x.1)], fun x => [.box [.v (.int .i64 1), .v (.int .i64 8), .v (.int .i64 b)], .row shW 37 x.2.1], fun x => x.2.2, fun x => (x.1 : Int) ≤ b ∧ (x.2.1.length : Int) = 144 + 32 * b ∧ x.2.2.rd 0 0 sizesL, fun x => b.toNat - x.1, ?_⟩
  refine And.intro (Exists.intro (0, xs, T) (And.intro (And.intro (And.intro ?_ rfl) (And.intro rfl (Store.le_refl _))) ⟨by show (0 : Int) ≤ b; omega, hxl, hT⟩)) ?_
  · repeat' first | exact trivial | exact rfl | refine And.intro ?_ ?_
  refine fun x hx => ?_
  obtain ⟨i, xs, T⟩ := x
  obtain ⟨hi, hxl, hT⟩ := hx
  simp only at hi hxl hT
  refine And.intro (fun h => ?_) (fun h => ?_)
  · have h : (i : Int) < b := of_decide_eq_true h
    refine ⟨⟨_, rfl, rfl, rfl⟩, .inl ⟨_, _, _, block_spec T b hb hT i (by omega) h, fun T1 x hT1 hx => ?_⟩⟩
    obtain rfl : 144 + (i : Int) * 32 = x := hx.symm
    have hn : (144 + (i : Int) * 32).toNat = 144 + i * 32 := by omega
    obtain ⟨x1, hx1⟩ : ∃ x, xs[(144 + (i : Int) * 32).toNat]? = some x := ⟨xs[(144 + (i : Int) * 32).toNat]'(by omega), List.getElem?_eq_getElem (by omega)⟩
    refine ⟨by omega, Eq.subst (motive := fun z : Int => 144 + (i : Int) * 32 < z) hxl.symm (show 144 + (i : Int) * 32 < 144 + 32 * b by omega), x1, (2, x1.2), hx1, ⟨trivial, trivial, trivial⟩, rfl, (by decide : 0 + 1 ≤ 3), ?_⟩
    refine ⟨(i : Int) + 1, wrap_i64 (by omega) (by omega), ?_⟩
    refine Exists.intro (i + 1, xs.set (144 + (i : Int) * 32).toNat (2, x1.2), T1) (And.intro (And.intro (And.intro ?_ rfl) (And.intro rfl (Store.le_refl _))) ⟨⟨by show ((i + 1 : Nat) : Int) ≤ b; omega, by rw [List.length_set]; exact hxl, Store.rd_le hT1 hT⟩, by show b.toNat - (i + 1) < b.toNat - i; omega⟩)
    repeat' first | exact trivial | exact rfl | refine And.intro ?_ ?_
  refine fun p c S' hS' hr' hf => ⟨rfl, ((p, xs.length, c), xs), rfl, rfl, ?_, hxl, hr'⟩
  rcases hf with ⟨-, h1, h2⟩ | ⟨-, -, h1⟩
  · have h1 : xs.length = 0 := h1
    show xs.length ≤ c
    omega
  · exact h1
end Go.Proofs.YtmkbaeilfejbjaaDoor
