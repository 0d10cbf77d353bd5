/- law15: the reference: Wrong, InWay. -/
import Derived.Test.YtdkdepibclhkmaaFd
namespace Go.Proofs.Ytdkdepibclhkmaa
open Go Go.Vc
set_option maxRecDepth 100000

set_option maxHeartbeats 1000000 in
theorem ref_wrong_spec (S : Store) (p : Hd) (xs : List It) (x : It) (hl : xs.length = p.2.1) (hr : RowRd S p.1 shT xs) (hn : xs.length ≤ 1000) :
    Pure Try.prog 11 S [slV p, vT x] rI (fun _ z => z = wrong xs x) := by
  obtain ⟨p, k, c⟩ := p
  simp only at hl hr
  subst hl
  refine pure_vc agrees Try.func11 rfl rfl (fun S S' q hle h => h) ?_
  refine And.intro (fun h0 => ?_) (fun h0 => ?_)
  · have h0 : x.1 < 0 := of_decide_eq_true h0
    exact onT ⟨rfl, _, rfl, (by show (3 : Int) = wrong xs x; rw [wrong, if_pos (.inl h0)])⟩
  have h0 : ¬ x.1 < 0 := of_decide_eq_false h0
  refine And.intro (fun h1 => ?_) (fun h1 => ?_)
  · have h1 : x.1 > 63 := of_decide_eq_true h1
    exact ⟨rfl, _, rfl, (by show (3 : Int) = wrong xs x; rw [wrong, if_pos (.inr (by omega))])⟩
  have h1 : ¬ x.1 > 63 := of_decide_eq_false h1
  refine And.intro (fun h2 => ?_) (fun h2 => ?_)
  · have h2 : x.2.1 < 0 := of_decide_eq_true h2
    exact onT ⟨rfl, _, rfl, (by show (12 : Int) = wrong xs x; rw [wrong, if_neg (by omega), if_pos (.inl h2)])⟩
  have h2 : ¬ x.2.1 < 0 := of_decide_eq_false h2
  refine And.intro (fun h3 => ?_) (fun h3 => ?_)
  · have h3 : x.2.1 > x.2.2 := of_decide_eq_true h3
    exact ⟨rfl, _, rfl, (by show (12 : Int) = wrong xs x; rw [wrong, if_neg (by omega), if_pos (.inr h3)])⟩
  have h3 : ¬ x.2.1 > x.2.2 := of_decide_eq_false h3
  refine ⟨[], [], Nat, List.range' 6 60, fun i => [(5, rI i)], fun _ => [.box [.v (.int .i64 x.1), .v (.int .i64 x.2.1), .v (.int .i64 x.2.2)]], fun _ => S, fun i => i ≤ xs.length ∧ xs.any (fun o => o.1 == x.1) = (xs.drop i).any (fun o => o.1 == x.1), fun i => xs.length - i, ?_⟩
  refine And.intro (Exists.intro 0 (And.intro (And.intro (And.intro ?_ rfl) (And.intro rfl (Store.le_refl _))) ⟨Nat.zero_le _, by simp⟩)) ?_
  · repeat' first | exact trivial | exact rfl | refine And.intro ?_ ?_
  rintro i ⟨hi, hdone⟩
  have i0 : (0 : Int) ≤ ((i : Nat) : Int) := Int.natCast_nonneg _
  refine And.intro (fun h => ?_) (fun h => ?_)
  · have hil : i < xs.length := by
      have : ((i : Nat) : Int) < ((xs.length : Nat) : Int) := of_decide_eq_true h
      omega
    have i1 : ((i : Nat) : Int) < ((xs.length : Nat) : Int) := by omega
    have hwi : IntKind.i64.wrap (((i : Nat) : Int) + 1) = ((i + 1 : Nat) : Int) := wrap_i64 (by omega) (by omega)
    have hx : xs[i]? = some xs[i] := List.getElem?_eq_getElem hil
    obtain ⟨y, hyy⟩ : ∃ y, xs[i] = y := ⟨_, rfl⟩
    rw [hyy] at hx
    have hdr : xs.drop i = y :: xs.drop (i + 1) := by rw [List.drop_eq_getElem_cons hil, hyy]
    obtain ⟨b1, o, hp, hok, hrd⟩ := row_at hr hx
    refine ⟨or11_8, [], oF11_8, by kernel_rfl, ?_⟩
    refine ⟨i0, i1, b1, o, hp, y.1, trivial, rd_field hrd rfl, ?_⟩
    refine And.intro (fun h5 => ?_) (fun h5 => ?_)
    · have h5 : (y.1 == x.1) = true := h5
      refine ⟨rfl, _, rfl, ?_⟩
      show (11 : Int) = wrong xs x
      rw [wrong, if_neg (by omega), if_neg (by omega), if_pos]
      rw [hdone, hdr, List.any_cons, h5, Bool.true_or]
    have h5 : (y.1 == x.1) = false := h5
    refine ⟨((i + 1 : Nat) : Int), hwi, i + 1, ⟨⟨?_, rfl⟩, rfl, Store.le_refl _⟩, ⟨hil, ?_⟩, ?_⟩
    · repeat' first | exact trivial | exact rfl | refine And.intro ?_ ?_
    · rw [hdone, hdr, List.any_cons, h5, Bool.false_or]
    · show xs.length - (i + 1) < xs.length - i
      omega
  · have hil : i = xs.length := by
      have : ¬ ((i : Nat) : Int) < ((xs.length : Nat) : Int) := of_decide_eq_false h
      omega
    rw [hil, List.drop_length] at hdone
    refine ⟨rfl, _, rfl, ?_⟩
    show (0 : Int) = wrong xs x
    rw [wrong, if_neg (by omega), if_neg (by omega), if_neg (by rw [hdone]; simp)]

set_option maxHeartbeats 1000000 in
theorem ref_way_spec (S : Store) (x : It) (p q : Hd) (ann held : List Int) (hl : ann.length = p.2.1) (hr : RowRd S p.1 shI ann) (hm : held.length = q.2.1) (hr' : RowRd S q.1 shI held) (hn : ann.length ≤ 1000000) (hn' : held.length ≤ 1000000) :
    Pure Try.prog 14 S [vT x, slV p, slV q] rB (fun _ b => b = way x ann held) := by
  obtain ⟨p, k, c⟩ := p
  simp only at hl hr
  subst hl
  obtain ⟨q, k, d⟩ := q
  simp only at hm hr'
  subst hm
  refine pure_vc agrees Try.func14 rfl rfl (fun S S' q hle h => h) ?_
  refine ⟨[], [], Nat, List.range' 8 60, fun i => [(7, rI i)], fun _ => [.box [.v (.int .i64 x.1), .v (.int .i64 x.2.1), .v (.int .i64 x.2.2)]], fun _ => S, fun i => i ≤ ann.length ∧ ann.any (lives x) = (ann.drop i).any (lives x), fun i => ann.length - i, ?_⟩
  refine And.intro (Exists.intro 0 (And.intro (And.intro (And.intro ?_ rfl) (And.intro rfl (Store.le_refl _))) ⟨Nat.zero_le _, by simp⟩)) ?_
  · repeat' first | exact trivial | exact rfl | refine And.intro ?_ ?_
  rintro i ⟨hi, hdone⟩
  have i0 : (0 : Int) ≤ ((i : Nat) : Int) := Int.natCast_nonneg _
  refine And.intro (fun h => ?_) (fun h => ?_)
  · have hil : i < ann.length := by
      have : ((i : Nat) : Int) < ((ann.length : Nat) : Int) := of_decide_eq_true h
      omega
    have i1 : ((i : Nat) : Int) < ((ann.length : Nat) : Int) := by omega
    have hwi : IntKind.i64.wrap (((i : Nat) : Int) + 1) = ((i + 1 : Nat) : Int) := wrap_i64 (by omega) (by omega)
    have hx : ann[i]? = some ann[i] := List.getElem?_eq_getElem hil
    obtain ⟨y, hyy⟩ : ∃ y, ann[i] = y := ⟨_, rfl⟩
    rw [hyy] at hx
    have hdr : ann.drop i = y :: ann.drop (i + 1) := by rw [List.drop_eq_getElem_cons hil, hyy]
    obtain ⟨b1, o, hp, hok, hrd⟩ := row_at hr hx
    refine ⟨or14_4, [], oF14_4, by kernel_rfl, ?_⟩
    refine ⟨i0, i1, b1, o, hp, y, trivial, hrd, ?_⟩
    have no : lives x y = false → ann.any (lives x) = (ann.drop (i + 1)).any (lives x) := fun e => by rw [hdone, hdr, List.any_cons, e, Bool.false_or]
    have yes : lives x y = true → true = way x ann held := fun e => by rw [way, hdone, hdr, List.any_cons, e]; rfl
    refine And.intro (fun h5 => ?_) (fun h5 => ?_)
    · have h5 : (y != 0) = true := h5
      refine ⟨i0, i1, b1, o, hp, y, trivial, hrd, ?_⟩
      refine And.intro (fun h6 => ?_) (fun h6 => ?_)
      · have h6 : decide (y ≥ x.2.1) = true := h6
        refine ⟨i0, i1, b1, o, hp, y, trivial, hrd, ?_⟩
        refine And.intro (fun h7 => ?_) (fun h7 => ?_)
        · have h7 : decide (y ≤ x.2.2) = true := h7
          exact ⟨rfl, _, rfl, yes (by rw [lives, h5, h6, h7]; rfl)⟩
        have h7 : decide (y ≤ x.2.2) = false := h7
        refine ⟨((i + 1 : Nat) : Int), hwi, i + 1, ⟨⟨?_, rfl⟩, rfl, Store.le_refl _⟩, ⟨hil, no (by rw [lives, h5, h6, h7]; rfl)⟩, ?_⟩
        · repeat' first | exact trivial | exact rfl | refine And.intro ?_ ?_
        · show ann.length - (i + 1) < ann.length - i
          omega
      have h6 : decide (y ≥ x.2.1) = false := h6
      refine onF ⟨((i + 1 : Nat) : Int), hwi, i + 1, ⟨⟨?_, rfl⟩, rfl, Store.le_refl _⟩, ⟨hil, no (by rw [lives, h5, h6]; rfl)⟩, ?_⟩
      · repeat' first | exact trivial | exact rfl | refine And.intro ?_ ?_
      · show ann.length - (i + 1) < ann.length - i
        omega
    have h5 : (y != 0) = false := h5
    refine onF (onF ⟨((i + 1 : Nat) : Int), hwi, i + 1, ⟨⟨?_, rfl⟩, rfl, Store.le_refl _⟩, ⟨hil, no (by rw [lives, h5]; rfl)⟩, ?_⟩)
    · repeat' first | exact trivial | exact rfl | refine And.intro ?_ ?_
    · show ann.length - (i + 1) < ann.length - i
      omega
  · have hil : i = ann.length := by
      have : ¬ ((i : Nat) : Int) < ((ann.length : Nat) : Int) := of_decide_eq_false h
      omega
    rw [hil, List.drop_length] at hdone
    have hdone1 := hdone
    clear hdone
    refine ⟨[], [], Nat, List.range' 9 70, fun i => [(8, rI i)], fun _ => [.box [.v (.int .i64 x.1), .v (.int .i64 x.2.1), .v (.int .i64 x.2.2)]], fun _ => S, fun i => i ≤ held.length ∧ held.any (named x) = (held.drop i).any (named x), fun i => held.length - i, ?_⟩
    refine And.intro (Exists.intro 0 (And.intro (And.intro (And.intro ?_ rfl) (And.intro rfl (Store.le_refl _))) ⟨Nat.zero_le _, by simp⟩)) ?_
    · repeat' first | exact trivial | exact rfl | refine And.intro ?_ ?_
    rintro i ⟨hi, hdone⟩
    have i0 : (0 : Int) ≤ ((i : Nat) : Int) := Int.natCast_nonneg _
    refine And.intro (fun h => ?_) (fun h => ?_)
    · have hil : i < held.length := by
        have : ((i : Nat) : Int) < ((held.length : Nat) : Int) := of_decide_eq_true h
        omega
      have i1 : ((i : Nat) : Int) < ((held.length : Nat) : Int) := by omega
      have hwi : IntKind.i64.wrap (((i : Nat) : Int) + 1) = ((i + 1 : Nat) : Int) := wrap_i64 (by omega) (by omega)
      have hx : held[i]? = some held[i] := List.getElem?_eq_getElem hil
      obtain ⟨y, hyy⟩ : ∃ y, held[i] = y := ⟨_, rfl⟩
      rw [hyy] at hx
      have hdr : held.drop i = y :: held.drop (i + 1) := by rw [List.drop_eq_getElem_cons hil, hyy]
      obtain ⟨b1, o, hp, hok, hrd⟩ := row_at hr' hx
      refine ⟨or14_9, [], oF14_9, by kernel_rfl, ?_⟩
      refine ⟨i0, i1, b1, o, hp, y, trivial, hrd, _, rfl, ?_⟩
      refine And.intro (fun h5 => ?_) (fun h5 => ?_)
      · have h5 : named x y = true := h5
        refine ⟨rfl, _, rfl, ?_⟩
        show true = way x ann held
        rw [way, hdone, hdr, List.any_cons, h5]
        simp
      have h5 : named x y = false := h5
      refine ⟨((i + 1 : Nat) : Int), hwi, i + 1, ⟨⟨?_, rfl⟩, rfl, Store.le_refl _⟩, ⟨hil, ?_⟩, ?_⟩
      · repeat' first | exact trivial | exact rfl | refine And.intro ?_ ?_
      · rw [hdone, hdr, List.any_cons, h5, Bool.false_or]
      · show held.length - (i + 1) < held.length - i
        omega
    · have hil : i = held.length := by
        have : ¬ ((i : Nat) : Int) < ((held.length : Nat) : Int) := of_decide_eq_false h
        omega
      rw [hil, List.drop_length] at hdone
      refine ⟨rfl, _, rfl, ?_⟩
      show false = way x ann held
      rw [way, hdone1, hdone]
      rfl
end Go.Proofs.Ytdkdepibclhkmaa
