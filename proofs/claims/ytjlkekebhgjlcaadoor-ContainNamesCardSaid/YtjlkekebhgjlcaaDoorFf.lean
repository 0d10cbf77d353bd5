/- law29: the closure that Call hands on; Call. -/
import Derived.Test.YtjlkekebhgjlcaaDoorFe
import Derived.Deep.RegionWith
import Derived.RegionDies
namespace Go.Proofs.YtjlkekebhgjlcaaDoor
open Go Go.Vc
set_option maxRecDepth 100000

/-- How a host function ends. -/
def hostE (f : Nat) (l : List Int) (e : Ending) : Prop := match f, l with
  | 32, [x] => e = .returned (.int .i64 (IntKind.i64.wrap (x + 1)))
  | 33, [x] => e = .panicked [{ v := .iface 9 (.string (⟨#[100, 101, 101, 112]⟩ ++ ⟨#[32]⟩ ++ dec x)), recovered := false }, { v := .iface 9 (.string ⟨#[102, 105, 114, 115, 116]⟩), recovered := false }]
  | 34, [x] => e = .returned (.int .i64 (IntKind.i64.wrap (x * 2)))
  | 35, [x] => e = .panicked [{ v := .iface 9 (.string (⟨#[102, 97, 105, 108]⟩ ++ ⟨#[32]⟩ ++ dec x)), recovered := false }]
  | 36, [x, y] => e = .returned (.int .i64 (if y > x then y else x))
  | 37, [x, y] => if y = 0 then e = .panicked [{ v := .iface 10 (.string divZero), recovered := false }] else e = .returned (.int .i64 (IntKind.i64.wrap (x.tdiv y)))
  | 38, [x] => e = .returned (.int .i64 (IntKind.i64.wrap (x * x)))
  | 39, [x, y] => e = .returned (.int .i64 (IntKind.i64.wrap (x + y)))
  | _, _ => False
def hostIs (f : Nat) (l : List Int) : Prop := match f, l with
  | 32, [_] | 33, [_] | 34, [_] | 35, [_] | 36, [_, _] | 37, [_, _] | 38, [_] | 39, [_, _] => True
  | _, _ => False

/-- A call that reads what the store knows, as it stands in one world. -/
theorem of_pure {f : FuncId} {w : World} {args : List Value} {n : Int} (h : Pure Tryd.prog f (Store.of w) args rI (fun _ v => v = n)) : Calls Tryd.prog f args.toArray w fun e w' => Old w w' ∧ e = .returned (.int .i64 n) := by
  refine (h w (Store.le_refl _)).mono ?_
  rintro e w' ⟨v, x, S', rfl, ⟨rfl, -⟩, -, -, hold, -, rfl⟩
  exact ⟨hold, rfl⟩

theorem host_walk (S : Store) (hT : Tab S) (w : World) (hw : S.le (Store.of w)) (f : Nat) (b c : Nat) (l : List Int) (hf : hostIs f l) (hl : ∀ x ∈ l, inI64 x) (hr : ∀ j x, l[j]? = some x → w.cell? ⟨b, j, none⟩ = some (.int .i64 x)) :
    Calls Tryd.prog f #[.slice (some ⟨b, 0, none⟩) l.length c] w fun e w' => Old w w' ∧ hostE f l e := by
  have hrow : RowRd (Store.of w) (some ⟨b, 0, none⟩) shI l := by
    refine ⟨.inr ⟨b, 0, rfl, fun j v hj => ?_⟩, fun _ _ => trivial⟩
    have he : List.flatMap shI.enc l = l.map (Value.int .i64) := by
      clear hr hf hl hj
      induction l with
      | nil => rfl
      | cons x xs ih => rw [List.flatMap_cons, ih]; rfl
    rw [he, List.getElem?_map] at hj
    obtain ⟨x, hx, rfl⟩ := Option.map_eq_some_iff.1 hj
    rw [Nat.zero_add]
    exact hr j x hx
  unfold hostIs at hf
  split at hf
  · rename_i x; exact calm_walk S hT w hw b c x (hl x (by simp)) (hr 0 x rfl)
  · rename_i x; exact deep_walk S hT w hw b c x (hl x (by simp)) (hr 0 x rfl)
  · rename_i x; exact of_pure (double_spec _ _ c x hrow)
  · rename_i x; exact fail_walk S hT w hw b c x (hl x (by simp)) (hr 0 x rfl)
  · rename_i x y; exact of_pure (most_spec _ _ c x y hrow)
  · rename_i x y
    by_cases h : y = 0
    · subst h; exact part_zero w b c x (hr 0 x rfl) (hr 1 0 rfl)
    · simp only [hostE, if_neg h]
      exact of_pure (part_spec _ _ c x y h hrow)
  · rename_i x; exact of_pure (square_spec _ _ c x hrow)
  · rename_i x y; exact of_pure (sum_spec _ _ c x y hrow)
  · exact hf.elim

@[reducible] def cOut : Option Addr → SV
  | none => .c (.v (.slice none 0 0))
  | some _ => .c (.ref 0)
@[reducible] def cNews (xs : List Int) : Option Addr → List Res
  | none => []
  | some _ => [.row shI 2 xs]
set_option maxHeartbeats 1000000 in
theorem clone_spec (S : Store) (p : Hd) (xs : List Int) (hl : xs.length = p.2.1) (hr : RowRd S p.1 shI xs) (hn : xs.length ≤ 1000000) :
    SpecN Tryd.prog 27 S [slV p] (A := Unit) (fun _ => cOut p.1) (fun _ => cNews xs p.1) (fun _ _ => True) := by
  obtain ⟨p, k, c⟩ := p
  simp only at hl hr
  subst hl
  refine specN_vc agrees Tryd.func27 rfl rfl (fun _ _ _ _ h => h) ?_
  cases p with
  | none => exact onT ⟨[], (), rfl, rfl, rfl, trivial⟩
  | some a =>
    refine onF ⟨xs, src_of rfl hr, fun y hy => hr.2 y hy, by show ([].length + xs.length) * 8 ≤ 140737488355328; rw [List.length_nil]; omega, [0], (), rfl, rfl, rfl, trivial⟩
/-- Clone, as a call: new cells. -/
theorem clone_walk (S : Store) (a : Addr) (n c : Nat) (xs : List Int) (hx : xs ≠ []) (hl : xs.length = n) (hr : RowRd S (some a) shI xs) (hn : xs.length ≤ 1000000) (w : World) (hw : S.le (Store.of w)) :
    Calls Tryd.prog 27 #[.slice (some a) n c] w fun e w' => Old w w' ∧ ∃ g c', e = .returned (.slice (some ⟨g, 0, none⟩) n c') ∧ ∀ j x, xs[j]? = some x → w'.cell? ⟨g, j, none⟩ = some (.int .i64 x) := by
  refine (clone_spec S (some a, n, c) xs hl hr hn w hw).mono ?_
  rintro e w' ⟨v, x, S', ρ', rfl, ⟨hrel, -⟩, hst, -, -, -⟩
  refine ⟨⟨hst.os, hst.tape, hst.output, hst.size, fun k hk => hst.block k hk (fun h => h)⟩, ?_⟩
  obtain ⟨h, hh, how, -⟩ := hst.res 0 _ rfl
  rw [hrel] at hh
  simp only [Option.some.injEq] at hh
  subst hh
  subst hl
  have he : shI.encs xs = xs.map (Value.int .i64) := by
    clear how hrel hst hr hn hx
    unfold Shape.encs
    induction xs with
    | nil => rfl
    | cons x xs ih => rw [List.flatMap_cons, ih]; rfl
  rcases how.2 with ⟨-, h0⟩ | ⟨g, cap, cur, rfl, -, hc, h5, h6, h7, h8⟩
  · exact absurd (List.length_eq_zero_iff.1 h0) hx
  · refine ⟨g, cap, rfl, fun j x hj => ?_⟩
    have hlt : j < xs.length := (List.getElem?_eq_some_iff.1 hj).1
    have := congrArg (·[j]?) h8
    simp only [Shape.n, Nat.mul_one] at this
    rw [List.getElem?_take_of_lt hlt, he, List.getElem?_map, hj] at this
    simp only [World.cell?, hc]
    simpa using this

theorem hostE_cases {f : Nat} {l : List Int} (h : hostIs f l) : (∃ n, ∀ e, hostE f l e ↔ e = .returned (.int .i64 n)) ∨ ∃ ch, ∀ e, hostE f l e ↔ e = .panicked ch := by
  unfold hostIs at h
  split at h
  · exact .inl ⟨_, fun e => Iff.rfl⟩
  · exact .inr ⟨_, fun e => Iff.rfl⟩
  · exact .inl ⟨_, fun e => Iff.rfl⟩
  · exact .inr ⟨_, fun e => Iff.rfl⟩
  · exact .inl ⟨_, fun e => Iff.rfl⟩
  · rename_i x y
    by_cases hy : y = 0
    · exact .inr ⟨[{ v := .iface 10 (.string divZero), recovered := false }], fun e => by simp only [hostE, if_pos hy]⟩
    · exact .inl ⟨IntKind.i64.wrap (x.tdiv y), fun e => by simp only [hostE, if_neg hy]⟩
  · exact .inl ⟨_, fun e => Iff.rfl⟩
  · exact .inl ⟨_, fun e => Iff.rfl⟩
  · exact h.elim
theorem host_enters {f : Nat} {l : List Int} (hf : hostIs f l) : ∀ args w, (callFunc f args).run Tryd.prog w = .ok (.enter f args) w := by
  unfold hostIs at hf
  split at hf
  · exact enters_of Tryd.func32 (by kernel_rfl) rfl
  · exact enters_of Tryd.func33 (by kernel_rfl) rfl
  · exact enters_of Tryd.func34 (by kernel_rfl) rfl
  · exact enters_of Tryd.func35 (by kernel_rfl) rfl
  · exact enters_of Tryd.func36 (by kernel_rfl) rfl
  · exact enters_of Tryd.func37 (by kernel_rfl) rfl
  · exact enters_of Tryd.func38 (by kernel_rfl) rfl
  · exact enters_of Tryd.func39 (by kernel_rfl) rfl
  · exact hf.elim
set_option maxHeartbeats 2000000 in
theorem call1_spec (S : Store) (hT : Tab S) (bf ba : Nat) (k : Int) (f : Nat) (a : Addr) (c : Nat) (l : List Int) (hf : hostIs f l) (hx : l ≠ []) (hl : ∀ x ∈ l, inI64 x) (hn : l.length ≤ 1000000)
    (h1 : S.rd bf 0 [.int .i64 k, fv f]) (h2 : S.rd ba 0 [.slice (some a) l.length c]) (hr : RowRd S (some a) shI l) :
    PureX S 26 [.pointer (some ⟨bf, 0, none⟩), .pointer (some ⟨ba, 0, none⟩)] (hostE f l) := by
  intro w hw
  have c1 : w.cell? ⟨bf, 1, none⟩ = some (fv f) := hw.1 _ _ _ (h1 1 _ rfl)
  have c2 := cell_of h2 hw
  have hE : ∀ args w, (callFunc 27 args).run Tryd.prog w = .ok (.enter 27 args) w := enters_of Tryd.func27 (by kernel_rfl) rfl
  have hE2 : ∀ args w, (callFunc f args).run Tryd.prog w = .ok (.enter f args) w := host_enters hf
  have hw2 := fun (w2 : World) (h : Old w w2) (g c' : Nat) (hc : ∀ j x, l[j]? = some x → w2.cell? ⟨g, j, none⟩ = some (.int .i64 x)) => host_walk S hT w2 (old_le hw h) f g c' l hf hl hc
  rcases hostE_cases hf with ⟨n, hn'⟩ | ⟨ch, hn'⟩
  · simp only [hn'] at hw2 ⊢
    go_enter Tryd.func26, Tryd.ntmps26
    go_wp2
    go_region_with (first
      | (go_at_call 27; refine (clone_walk S a _ c l hx rfl hr hn w.drew hw).mono ?_; rintro e w' ⟨hold, g, c', rfl, hcell⟩; have c1' := (Old.trans (Old.drew w) hold).cell c1; have c2' := (Old.trans (Old.drew w) hold).cell c2)
      | (refine (hw2 _ (Old.trans (Old.drew w) hold) g c' hcell).mono ?_; rintro e w2 ⟨hold2, rfl⟩))
    all_goals (go_wp2; go_ret; exact ⟨(Old.trans (Old.drew w) hold).trans hold2, rfl⟩)
  · simp only [hn'] at hw2 ⊢
    go_enter Tryd.func26, Tryd.ntmps26
    go_wp2
    go_region_dies
    all_goals rename_i hK
    all_goals (refine (clone_walk S a _ c l hx rfl hr hn w.drew hw).mono ?_; rintro e w' ⟨hold, g, c', rfl, hcell⟩; have c1' := (Old.trans (Old.drew w) hold).cell c1; refine hK _ _ ?_; clear hK)
    · refine wpAny_ready (rs := [4]) (by kernel_rfl) (by simp) ?_
      refine AllReady.cons rfl (fun K hK => ?_) AllReady.nil
      go_simp
      refine (hw2 _ (Old.trans (Old.drew w) hold) g c' hcell).mono ?_
      rintro e w2 ⟨hold2, rfl⟩
      exact ⟨rfl, (Old.trans (Old.drew w) hold).trans hold2, rfl⟩
    · refine wpAny_ready (rs := [4]) (by kernel_rfl) (by simp) ?_
      refine AllReady.cons rfl (fun K hK => ?_) AllReady.nil
      go_simp
      refine (hw2 _ (Old.trans (Old.drew w) hold) g c' hcell).mono ?_
      rintro e w2 ⟨hold2, rfl⟩
      exact ⟨rfl, (Old.trans (Old.drew w) hold).trans hold2, rfl⟩
    · refine wpAny_ready (rs := [1]) (by kernel_rfl) (by simp) ?_
      refine AllReady.cons rfl (fun K hK => ?_) AllReady.nil
      go_simp
      refine hK _ _ ?_
      clear hK
      refine wpAny_ready (rs := [4]) (by kernel_rfl) (by simp) ?_
      refine AllReady.cons rfl (fun K hK => ?_) AllReady.nil
      go_simp
      refine (hw2 _ (Old.trans (Old.drew w) hold) g c' hcell).mono ?_
      rintro e w2 ⟨hold2, rfl⟩
      exact ⟨rfl, (Old.trans (Old.drew w) hold).trans hold2, rfl⟩
end Go.Proofs.YtjlkekebhgjlcaaDoor
