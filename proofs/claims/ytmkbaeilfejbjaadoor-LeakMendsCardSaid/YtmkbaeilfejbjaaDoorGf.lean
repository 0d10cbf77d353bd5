/- law16, LeakMends: the blocks that are marked; Mend. -/
import Derived.Test.YtmkbaeilfejbjaaDoorGe
import Derived.Test.YtmkbaeilfejbjaaDoorFb
namespace Go.Proofs.YtmkbaeilfejbjaaDoor
open Go Go.Vc
set_option maxRecDepth 100000

/-- Is a block marked in the words? -/
def marked (w : List Wd) (i : Nat) : Bool := match w[136 + i / 32]? with
  | some x => bitAnd .i64 x.1 ((2 ^ (i % 32) : Nat) : Int) != 0
  | none => false
def usedW (b : Nat) (w : List Wd) : List Int := ((List.range b).filter (marked w)).map fun (i : Nat) => (i : Int)

theorem usedW_succ (i : Nat) (w : List Wd) : usedW (i + 1) w = if marked w i = true then usedW i w ++ [(i : Int)] else usedW i w := by
  unfold usedW
  rw [List.range_succ, List.filter_append]
  cases h : marked w i <;> simp [h]

set_option maxHeartbeats 1000000 in
theorem used_spec (S : Store) (b : Int) (hb : 1 ≤ b ∧ b ≤ 64) (hS : S.rd 0 0 sizesL) (p : Hd) (w : List Wd) (hl : w.length = p.2.1) (hr : RowRd S p.1 shW w) (hn : w.length ≤ 1000000) (hw : 144 + 32 * b ≤ (w.length : Int)) :
    Pure Tryd.prog 9 S [vL b, slV p] (A := Hd) (fun q => .c (.v (slV q))) (fun S' q => q.2.1 = (usedW b.toNat w).length ∧ RowRd S' q.1 shI (usedW b.toNat w)) := by
  obtain ⟨p, n, c⟩ := p
  simp only at hl hr
  subst hl
  refine pure_vc agrees Tryd.func9 rfl rfl (fun S S' q hle h => ⟨h.1, h.2.le hle⟩) ?_
  refine ⟨⟨_, rfl, rfl, rfl⟩, .inl ⟨_, _, _, mright_spec S b hb hS (p, w.length, c) hw, fun S1 x hS1 hx => ?_⟩⟩
  obtain rfl : true = x := hx.symm
  refine onF ?_
  refine ⟨[], [(5, shI, 3)], Nat × Store, List.range' 6 100, fun x => [(14, .c (.v (.int .i64 b))), (15, rI x.1)], fun x => [.box [.v (.int .i64 1), .v (.int .i64 8), .v (.int .i64 b)], .row shI 3 (usedW x.1 w)], fun x => x.2, fun x => (x.1 : Int) ≤ b ∧ S1.le x.2, fun x => b.toNat - x.1, ?_⟩
  refine And.intro (Exists.intro (0, S1) (And.intro (And.intro (And.intro ?_ rfl) (And.intro rfl (Store.le_refl _))) ⟨by show (0 : Int) ≤ b; omega, Store.le_refl _⟩)) ?_
  · repeat' first | exact trivial | exact rfl | refine And.intro ?_ ?_
  refine fun x hx => ?_
  obtain ⟨i, T⟩ := x
  obtain ⟨hi, hT⟩ := hx
  simp only at hi hT
  refine And.intro (fun h => ?_) (fun h => ?_)
  · have h : (i : Int) < b := of_decide_eq_true h
    refine ⟨⟨_, rfl, rfl, rfl⟩, .inl ⟨_, _, _, bits_spec T b hb (Store.rd_le (Store.le_trans hS1 hT) hS) i h, fun T1 x hT1 hx => ?_⟩⟩
    obtain rfl : _ = x := hx.symm
    have hN : (((136 + i / 32 : Nat) : Int)).toNat = 136 + i / 32 := by omega
    obtain ⟨x1, hx1⟩ : ∃ x, w[136 + i / 32]? = some x := ⟨w[136 + i / 32]'(by omega), List.getElem?_eq_getElem (by omega)⟩
    obtain ⟨b1, o, hp, hok, hrd⟩ := row_at (hr.le (Store.le_trans (Store.le_trans hS1 hT) hT1)) hx1
    have hw1 : IntKind.i64.wrap ((i : Int) + 1) = ((i + 1 : Nat) : Int) := wrap_i64 (by omega) (by omega)
    have hus := usedW_succ i w
    have hmk : marked w i = (bitAnd .i64 x1.1 ((2 ^ (i % 32) : Nat) : Int) != 0) := by unfold marked; rw [hx1]
    have hul : (usedW i w).length ≤ i := by
      have := List.length_filter_le (marked w) (List.range i)
      simpa [usedW] using this
    refine ⟨by show (0 : Int) ≤ ((136 + i / 32 : Nat) : Int); omega, by show ((136 + i / 32 : Nat) : Int) < (w.length : Int); omega, b1, o, hp, x1.1, trivial, ?_, _, rfl, And.intro (fun h1 => ?_) (fun h1 => ?_)⟩
    · exact rd_field (o := o + (136 + i / 32) * 3) (f := 0) hrd rfl
    · have h1 : marked w i = true := by rw [hmk]; exact h1
      refine ⟨[(i : Int)], ⟨rfl, rfl⟩, fun _ _ => trivial, ?_, ((i + 1 : Nat) : Int), hw1, (i + 1, T1), ⟨⟨?_, rfl⟩, ?_, Store.le_refl _⟩, ⟨by show ((i + 1 : Nat) : Int) ≤ b; omega, Store.le_trans hT hT1⟩, ?_⟩
      · show ((usedW i w).length + 1) * 8 ≤ 140737488355328
        omega
      · repeat' first | exact trivial | exact rfl | refine And.intro ?_ ?_
      · show [Res.box _, Res.row shI 3 (usedW i w ++ [(i : Int)])] = [Res.box _, Res.row shI 3 (usedW (i + 1) w)]
        rw [hus, h1]
        rfl
      · show b.toNat - (i + 1) < b.toNat - i
        omega
    · have h1 : marked w i = false := by rw [hmk]; exact h1
      refine ⟨((i + 1 : Nat) : Int), hw1, (i + 1, T1), ⟨⟨?_, rfl⟩, ?_, Store.le_refl _⟩, ⟨by show ((i + 1 : Nat) : Int) ≤ b; omega, Store.le_trans hT hT1⟩, ?_⟩
      · repeat' first | exact trivial | exact rfl | refine And.intro ?_ ?_
      · show [Res.box _, Res.row shI 3 (usedW i w)] = [Res.box _, Res.row shI 3 (usedW (i + 1) w)]
        rw [hus, h1]
        rfl
      · show b.toNat - (i + 1) < b.toNat - i
        omega
  have hib : i = b.toNat := by have := of_decide_eq_false h; simp only at this; omega
  subst hib
  refine fun p c S' hS' hr' hf => ⟨rfl, (p, (usedW b.toNat w).length, c), rfl, rfl, hr'⟩

theorem usedW_length (b : Nat) (w : List Wd) : (usedW b w).length ≤ b := by
  have := List.length_filter_le (marked w) (List.range b)
  simpa [usedW] using this

/-- What Mend answers. -/
theorem mend_spec (S : Store) (b : Int) (hb : 1 ≤ b ∧ b ≤ 64) (hS : S.rd 0 0 sizesL) (p q : Hd) (w : List Wd) (u : List Int) (hl : w.length = p.2.1) (hr : RowRd S p.1 shW w) (hn : w.length ≤ 1000000)
    (hm : u.length = q.2.1) (hr' : RowRd S q.1 shI u) (hn' : u.length ≤ 1000000) (hw : 144 + 32 * b ≤ (w.length : Int)) :
    Pure Tryd.prog 7 S [vL b, slV p, slV q] (A := Hd × Hd × Int × List Wd × List Int) (fun x => .tup [(false, [.v (slV x.1)]), (false, [.v (slV x.2.1)]), (false, [.v (.int .i64 x.2.2.1)])])
      (fun S' x => (x.1.2.1 = x.2.2.2.1.length ∧ RowRd S' x.1.1 shW x.2.2.2.1) ∧ (x.2.1.2.1 = x.2.2.2.2.length ∧ RowRd S' x.2.1.1 shI x.2.2.2.2) ∧
        (if u.any (bad b) then x.2.2 = (3, w, []) else x.2.2 = (0, markW b.toNat w u, lessOf (usedW b.toNat w) u))) := by
  refine pure_vc agrees Tryd.func7 rfl rfl (fun S S' q hle h => ⟨⟨h.1.1, h.1.2.le hle⟩, ⟨h.2.1.1, h.2.1.2.le hle⟩, h.2.2⟩) ?_
  refine ⟨⟨_, rfl, rfl, rfl⟩, .inl ⟨_, _, _, mark_spec S b hb hS p q w u hl hr hn hm hr' hn' hw, fun S1 x hS1 hx => ?_⟩⟩
  obtain ⟨xp, e, xw⟩ := x
  obtain ⟨hx1, hx2, hx3⟩ := hx
  simp only at hx1 hx2 hx3
  refine And.intro (fun h => ?_) (fun h => ?_)
  · have hbad : u.any (bad b) = true := by
      cases hu : u.any (bad b) with
      | true => rfl
      | false => rw [hu] at hx3; have h : (e != 0) = true := h; rw [hx3.1] at h; exact absurd h (by decide)
    rw [hbad] at hx3
    obtain ⟨rfl, -⟩ := hx3
    refine ⟨rfl, (p, (none, 0, 0), 3, w, []), rfl, ⟨hl.symm, hr.le hS1⟩, ⟨rfl, .inl rfl, by simp⟩, ?_⟩
    rw [hbad]
    rfl
  · have hbad : u.any (bad b) = false := by
      cases hu : u.any (bad b) with
      | false => rfl
      | true => rw [hu] at hx3; have h : (e != 0) = false := h; rw [hx3.1] at h; exact absurd h (by decide)
    rw [hbad] at hx3
    obtain ⟨rfl, rfl⟩ := hx3
    refine ⟨⟨_, rfl, rfl, rfl⟩, .inl ⟨_, _, _, used_spec S1 b hb (Store.rd_le hS1 hS) p w hl (hr.le hS1) hn hw, fun S2 y hS2 hy => ?_⟩⟩
    refine ⟨⟨_, rfl, rfl, rfl⟩, .inl ⟨_, _, _, lost_spec S2 y q (usedW b.toNat w) u hy.1.symm hy.2 hm (hr'.le (Store.le_trans hS1 hS2)) (by have := usedW_length b.toNat w; omega) hn', fun S3 z hS3 hz => ?_⟩⟩
    refine ⟨rfl, (xp, z, 0, markW b.toNat w u, lessOf (usedW b.toNat w) u), rfl, ⟨hx1, hx2.le (Store.le_trans hS2 hS3)⟩, hz, ?_⟩
    rw [hbad]
    rfl
end Go.Proofs.YtmkbaeilfejbjaaDoor
