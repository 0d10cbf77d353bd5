/- law16: the reference's Less; compact of sorted is rising. -/
import Derived.Test.YtmkbaeilfejbjaaDoorFc
namespace Go.Proofs.YtmkbaeilfejbjaaDoor
open Go Go.Vc
set_option maxRecDepth 100000

set_option maxHeartbeats 4000000 in
theorem ref_less_spec (S : Store) (p q : Hd) (a b : List Int) (hl : a.length = p.2.1) (hr : RowRd S p.1 shI a) (hm : b.length = q.2.1) (hr' : RowRd S q.1 shI b) (hn : a.length ≤ 1000000) (hn' : b.length ≤ 1000000) :
    Pure Tryd.prog 11 S [slV p, slV q] (A := Hd) (fun q => .c (.v (slV q))) (fun S' q => q.2.1 = (rising (a.filter fun n => decide (n ∉ b))).length ∧ RowRd S' q.1 shI (rising (a.filter fun n => decide (n ∉ b)))) := by
  obtain ⟨p, n, c⟩ := p
  obtain ⟨q, n', c'⟩ := q
  simp only at hl hr hm hr'
  subst hl hm
  refine pure_vc agrees Tryd.func11 rfl rfl (fun S S' q hle h => ⟨h.1, h.2.le hle⟩) ?_
  refine ⟨[], [(5, shI, 3)], Nat × Store, List.range' 7 50, fun x => [(5, .c (.ref 0)), (6, .c (.v (.int .i64 x.1)))], fun x => [.row shI 3 ((a.take x.1).filter fun n => decide (n ∉ b))], fun x => x.2,
    fun x => x.1 ≤ a.length ∧ S.le x.2, fun x => a.length - x.1, ?_⟩
  refine And.intro (Exists.intro (0, S) (And.intro (And.intro (And.intro ?_ rfl) (And.intro rfl (Store.le_refl _))) ⟨Nat.zero_le _, Store.le_refl _⟩)) ?_
  · repeat' first | exact trivial | exact rfl | refine And.intro ?_ ?_
  rintro ⟨j, T⟩ ⟨hj, hT⟩
  simp only at hj hT
  have hlen : ((a.take j).filter fun n => decide (n ∉ b)).length ≤ j := by
    have h1 := List.length_filter_le (fun n => decide (n ∉ b)) (a.take j)
    rw [List.length_take] at h1
    omega
  refine And.intro (fun h => ?_) (fun h => ?_)
  · have hjl : j < a.length := by
      have : ((j : Nat) : Int) < ((a.length : Nat) : Int) := of_decide_eq_true h
      omega
    have hx : a[j]? = some a[j] := List.getElem?_eq_getElem hjl
    obtain ⟨b1, o1, hp1, hk1, hd1⟩ := row_at (hr.le hT) hx
    have j0 : (0 : Int) ≤ ((j : Nat) : Int) := Int.natCast_nonneg _
    have j1 : ((j : Nat) : Int) < ((a.length : Nat) : Int) := by omega
    obtain ⟨x, hxx⟩ : ∃ x, a[j] = x := ⟨_, rfl⟩
    rw [hxx] at hx hk1 hd1
    have hfil : (a.take (j + 1)).filter (fun n => decide (n ∉ b)) = (a.take j).filter (fun n => decide (n ∉ b)) ++ [x].filter fun n => decide (n ∉ b) := by
      rw [List.take_add_one, hx, List.filter_append]; rfl
    have hwj : IntKind.i64.wrap (((j : Nat) : Int) + 1) = ((j + 1 : Nat) : Int) := wrap_i64 (by omega) (by omega)
    refine ⟨j0, j1, b1, o1, hp1, x, hk1, hd1, ⟨_, rfl, rfl, rfl⟩, .inl ⟨_, _, _, in_spec T (q, b.length, c') b x rfl (hr'.le hT) hn', fun T1 y hT1 hy => ?_⟩⟩
    have hy' : y = decide (x ∈ b) := hy
    clear hy
    have hd2 := Store.rd_le hT1 hd1
    refine And.intro (fun h1 => ?_) (fun h1 => ?_)
    · have hxb : x ∉ b := by
        have h1' : (!y) = true := h1
        rw [hy'] at h1'
        simpa using h1'
      refine ⟨j0, j1, b1, o1, hp1, x, hk1, hd2, [x], ⟨rfl, rfl⟩, fun _ _ => trivial, ?_, ((j + 1 : Nat) : Int), hwj, (j + 1, T1), ⟨⟨?_, rfl⟩, ?_, Store.le_refl _⟩, ⟨hjl, Store.le_trans hT hT1⟩, ?_⟩
      · show (((a.take j).filter fun n => decide (n ∉ b)).length + 1) * 8 ≤ 140737488355328
        omega
      · repeat' first | exact trivial | exact rfl | refine And.intro ?_ ?_
      · show [Res.row shI 3 ((a.take j).filter (fun n => decide (n ∉ b)) ++ [x])] = [Res.row shI 3 ((a.take (j + 1)).filter fun n => decide (n ∉ b))]
        rw [hfil]
        simp [hxb]
      · show a.length - (j + 1) < a.length - j
        omega
    · have hxb : x ∈ b := by
        have h1' : (!y) = false := h1
        rw [hy'] at h1'
        simpa using h1'
      refine ⟨((j + 1 : Nat) : Int), hwj, (j + 1, T1), ⟨⟨?_, rfl⟩, ?_, Store.le_refl _⟩, ⟨hjl, Store.le_trans hT hT1⟩, ?_⟩
      · repeat' first | exact trivial | exact rfl | refine And.intro ?_ ?_
      · show [Res.row shI 3 ((a.take j).filter fun n => decide (n ∉ b))] = [Res.row shI 3 ((a.take (j + 1)).filter fun n => decide (n ∉ b))]
        rw [hfil]
        simp [hxb]
      · show a.length - (j + 1) < a.length - j
        omega
  · have hjl : j = a.length := by
      have : ¬ ((j : Nat) : Int) < ((a.length : Nat) : Int) := of_decide_eq_false h
      omega
    refine ⟨⟨_, rfl, rfl, rfl⟩, .inl fun p' d' T1 hT1 hr1 _ => ⟨_, _, _, rising_spec T1 (p', ((a.take j).filter fun n => decide (n ∉ b)).length, d') ((a.take j).filter fun n => decide (n ∉ b)) rfl hr1 (by omega), fun T2 y hT2 hy => ⟨rfl, y, rfl, ?_⟩⟩⟩
    rw [hjl, List.take_length] at hy
    exact hy

/-! ### Both give the one rising list of these numbers -/

theorem mem_ins {out : List Int} {x y : Int} : y ∈ ins out x ↔ y ∈ out ∨ y = x := by
  unfold ins
  split
  · rename_i h
    exact ⟨.inl, fun e => e.elim id fun e => e ▸ h⟩
  · have h1 : y ∈ out ↔ y ∈ out.takeWhile (fun y => decide (y < x)) ∨ y ∈ out.dropWhile (fun y => decide (y < x)) := by
      rw [← List.mem_append, List.takeWhile_append_dropWhile]
    rw [h1, List.mem_append, List.mem_cons]
    exact ⟨fun h => h.elim (fun h => .inl (.inl h)) fun h => h.elim .inr fun h => .inl (.inr h), fun h => h.elim (fun h => h.elim .inl fun h => .inr (.inr h)) fun h => .inr (.inl h)⟩
theorem mem_rising {l : List Int} {y : Int} : y ∈ rising l ↔ y ∈ l := by
  have key : ∀ (l out : List Int), y ∈ l.foldl ins out ↔ y ∈ out ∨ y ∈ l := by
    intro l
    induction l with
    | nil => intro out; simp
    | cons x l ih =>
      intro out
      rw [List.foldl_cons, ih, mem_ins, List.mem_cons, or_assoc]
  have := key l []
  simpa [rising] using this
end Go.Proofs.YtmkbaeilfejbjaaDoor
