/- law29: what each host function does. -/
import Derived.Test.YtjlkekebhgjlcaaDoorFd
import Derived.RegionDies
namespace Go.Proofs.YtjlkekebhgjlcaaDoor
open Go Go.Vc
set_option maxRecDepth 100000

theorem text_spec (S : Store) (hT : Tab S) (name : ByteArray) (n : Int) (hn : inI64 n) (hs : name.size ≤ 1000) : Pure Tryd.prog 46 S [.string name, .int .i64 n] (A := Unit) (fun _ => rS (name ++ ⟨#[32]⟩ ++ dec n)) (fun _ _ => True) := by
  refine pure_vc agrees Tryd.func46 rfl rfl (fun S S' q hle h => h) ?_
  have hd := dec_size hn
  have h1 : (name ++ (⟨#[32]⟩ : ByteArray)).size = name.size + 1 := by rw [ByteArray.size_append]; rfl
  refine ⟨by show name.size + 1 ≤ _; omega, ⟨_, rfl, rfl, rfl⟩, .inl ⟨_, _, _, format_spec S hT n hn, fun S1 x hS1 hx => ?_⟩⟩
  exact ⟨by rw [h1]; omega, rfl, (), rfl, trivial⟩

theorem old_le {S : Store} {w w' : World} (hw : S.le (Store.of w)) (hold : Old w w') : S.le (Store.of w') := Store.le_of hw fun b hk => hold.block b (by
  rcases Nat.lt_or_ge b w.heap.size with hb | hb
  · exact hb
  · have := Store.lt_of hw hb
    rcases hk with ⟨o, x, hx⟩ | ⟨x, hx⟩
    · rw [this.1 o] at hx; cases hx
    · rw [this.2] at hx; cases hx)
theorem double_spec (S : Store) (p : Option Addr) (c : Nat) (x : Int) (hr : RowRd S p shI [x]) : Pure Tryd.prog 34 S [.slice p 1 c] rI (fun _ v => v = IntKind.i64.wrap (x * 2)) := by
  refine pure_vc agrees Tryd.func34 rfl rfl (fun S S' q hle h => h) ?_
  obtain ⟨b, o, hp, hk, hd⟩ := row_at hr (i := 0) rfl
  exact ⟨by decide, by decide, b, o, hp, x, trivial, hd, _, rfl, rfl, _, rfl, rfl⟩
theorem most_spec (S : Store) (p : Option Addr) (c : Nat) (x y : Int) (hr : RowRd S p shI [x, y]) : Pure Tryd.prog 36 S [.slice p 2 c] rI (fun _ v => v = if y > x then y else x) := by
  refine pure_vc agrees Tryd.func36 rfl rfl (fun S S' q hle h => h) ?_
  obtain ⟨b, o, hp, hk, hd⟩ := row_at hr (i := 0) rfl
  obtain ⟨b', o', hp', hk', hd'⟩ := row_at hr (i := 1) rfl
  refine ⟨or36_1, [], oF36_1, by kernel_rfl, ?_⟩
  exact ⟨by decide, by decide, b, o, hp, x, trivial, hd, by decide, by decide, b', o', hp', y, trivial, hd', rfl, _, rfl, rfl⟩
theorem part_spec (S : Store) (p : Option Addr) (c : Nat) (x y : Int) (hy : y ≠ 0) (hr : RowRd S p shI [x, y]) : Pure Tryd.prog 37 S [.slice p 2 c] rI (fun _ v => v = IntKind.i64.wrap (x.tdiv y)) := by
  refine pure_vc agrees Tryd.func37 rfl rfl (fun S S' q hle h => h) ?_
  obtain ⟨b, o, hp, hk, hd⟩ := row_at hr (i := 0) rfl
  obtain ⟨b', o', hp', hk', hd'⟩ := row_at hr (i := 1) rfl
  refine ⟨or37_1, [], oF37_1, by kernel_rfl, ?_⟩
  exact ⟨by decide, by decide, b, o, hp, x, trivial, hd, by decide, by decide, b', o', hp', y, trivial, hd', hy, _, rfl, rfl, _, rfl, rfl⟩
theorem square_spec (S : Store) (p : Option Addr) (c : Nat) (x : Int) (hr : RowRd S p shI [x]) : Pure Tryd.prog 38 S [.slice p 1 c] rI (fun _ v => v = IntKind.i64.wrap (x * x)) := by
  refine pure_vc agrees Tryd.func38 rfl rfl (fun S S' q hle h => h) ?_
  obtain ⟨b, o, hp, hk, hd⟩ := row_at hr (i := 0) rfl
  refine ⟨or38_1, [], oF38_1, by kernel_rfl, ?_⟩
  exact ⟨by decide, by decide, b, o, hp, x, trivial, hd, by decide, by decide, b, o, hp, x, trivial, hd, _, rfl, rfl, _, rfl, rfl⟩
theorem sum_spec (S : Store) (p : Option Addr) (c : Nat) (x y : Int) (hr : RowRd S p shI [x, y]) : Pure Tryd.prog 39 S [.slice p 2 c] rI (fun _ v => v = IntKind.i64.wrap (x + y)) := by
  refine pure_vc agrees Tryd.func39 rfl rfl (fun S S' q hle h => h) ?_
  obtain ⟨b, o, hp, hk, hd⟩ := row_at hr (i := 0) rfl
  obtain ⟨b', o', hp', hk', hd'⟩ := row_at hr (i := 1) rfl
  refine ⟨or39_1, [], oF39_1, by kernel_rfl, ?_⟩
  exact ⟨by decide, by decide, b, o, hp, x, trivial, hd, by decide, by decide, b', o', hp', y, trivial, hd', _, rfl, rfl, _, rfl, rfl⟩

theorem _root_.Go.Vc.Old.drew (w : World) : Old w w.drew := ⟨rfl, rfl, rfl, Nat.le_refl _, fun _ _ => rfl⟩
def divZero : ByteArray := "integer divide by zero".toUTF8
def divSaid : ByteArray := "runtime error: integer divide by zero".toUTF8
theorem part_zero (w : World) (b c : Nat) (x : Int) (h : w.cell? ⟨b, 0, none⟩ = some (.int .i64 x)) (h1 : w.cell? ⟨b, 1, none⟩ = some (.int .i64 0)) :
    Calls Tryd.prog 37 #[.slice (some ⟨b, 0, none⟩) 2 c] w fun e w' => Old w w' ∧ e = .panicked [{ v := .iface 10 (.string divZero), recovered := false }] := by
  go_enter Tryd.func37, Tryd.ntmps37
  go_wp2
  go_region_dies
  all_goals (try go_wp2)
  all_goals exact ⟨rfl, Old.drew w, rfl⟩
theorem fail_walk (S : Store) (hT : Tab S) (w : World) (hw : S.le (Store.of w)) (b c : Nat) (x : Int) (hx : inI64 x) (h : w.cell? ⟨b, 0, none⟩ = some (.int .i64 x)) :
    Calls Tryd.prog 35 #[.slice (some ⟨b, 0, none⟩) 1 c] w fun e w' => Old w w' ∧ e = .panicked [{ v := .iface 9 (.string (⟨#[102, 97, 105, 108]⟩ ++ ⟨#[32]⟩ ++ dec x)), recovered := false }] := by
  have hE : ∀ args w, (callFunc 46 args).run Tryd.prog w = .ok (.enter 46 args) w := enters_of Tryd.func46 (by kernel_rfl) rfl
  go_enter Tryd.func35, Tryd.ntmps35
  go_wp2_with (go_at_call 46; refine (text_spec S hT _ x hx (by decide) _ hw).mono ?_; rintro e w' ⟨v, u, S', rfl, ⟨rfl, -⟩, -, -, hold, -, -⟩)
  exact ⟨rfl, hold, rfl⟩
theorem deep1_walk (S : Store) (hT : Tab S) (u : FrameMode) (w : World) (hw : S.le (Store.of w)) (bl b c : Nat) (x : Int) (hx : inI64 x) (hl : w.cell? ⟨bl, 0, none⟩ = some (.slice (some ⟨b, 0, none⟩) 1 c)) (h : w.cell? ⟨b, 0, none⟩ = some (.int .i64 x)) :
    CallsD Tryd.prog 47 #[.pointer (some ⟨bl, 0, none⟩)] u w fun e u' w' => u' = u ∧ (Old w w' ∧ e = .panicked [{ v := .iface 9 (.string (⟨#[100, 101, 101, 112]⟩ ++ ⟨#[32]⟩ ++ dec x)), recovered := false }]) := by
  have hE : ∀ args w, (callFunc 46 args).run Tryd.prog w = .ok (.enter 46 args) w := enters_of Tryd.func46 (by kernel_rfl) rfl
  go_enter_d Tryd.func47, Tryd.ntmps47
  go_wp2_with (go_at_call 46; refine (text_spec S hT _ x hx (by decide) _ hw).mono ?_; rintro e w' ⟨v, u, S', rfl, ⟨rfl, -⟩, -, -, hold, -, -⟩)
  exact ⟨rfl, hold, rfl⟩
theorem deep_walk (S : Store) (hT : Tab S) (w : World) (hw : S.le (Store.of w)) (b c : Nat) (x : Int) (hx : inI64 x) (h : w.cell? ⟨b, 0, none⟩ = some (.int .i64 x)) :
    Calls Tryd.prog 33 #[.slice (some ⟨b, 0, none⟩) 1 c] w fun e w' => Old w w' ∧ e = .panicked [{ v := .iface 9 (.string (⟨#[100, 101, 101, 112]⟩ ++ ⟨#[32]⟩ ++ dec x)), recovered := false }, { v := .iface 9 (.string ⟨#[102, 105, 114, 115, 116]⟩), recovered := false }] := by
  have hmf : ∀ (fn : Fn) (first cap : Array Value) (w : World), (Instr.makeFunc fn first cap).run Tryd.prog w = .ok (.func fn first cap) w := fun _ _ _ _ => rfl
  go_enter_defers Tryd.func33, Tryd.ntmps33
  go_wp2
  have hlow : b < w.heap.size := World.block_lt_of_cell? w ⟨b, 0, none⟩ h
  have hold := Old.alloc w (Obj.cells #[Value.slice (some ⟨b, 0, none⟩) 1 c] 34)
  refine leaves_cons (f := 47) (args := #[.pointer (some ⟨w.heap.size, 0, none⟩)]) (by simp) (by simp [go_sem]) ?_
  refine (deep1_walk S hT _ _ (old_le hw hold) w.heap.size b c x hx (by simp [go_sem]) (hold.cell h)).mono ?_
  rintro e u' w2 ⟨rfl, hold2, rfl⟩
  simp [Leaves, raised]
  exact hold.trans hold2

theorem calm1_walk (v : Value) (w : World) (bl bn b c : Nat) (x y : Int) (hl : w.cell? ⟨bl, 0, none⟩ = some (.slice (some ⟨b, 0, none⟩) 1 c)) (h : w.cell? ⟨b, 0, none⟩ = some (.int .i64 x)) (hn : w.cell? ⟨bn, 0, none⟩ = some (.int .i64 y)) (hz : w.frozen? ⟨bn, 0, none⟩ = false) :
    CallsD Tryd.prog 45 #[.pointer (some ⟨bl, 0, none⟩), .pointer (some ⟨bn, 0, none⟩)] (.panicking [{ v := v, recovered := false }]) w fun e u' w' =>
      e = .returned (.tuple #[]) ∧ u' = .panicking [{ v := v, recovered := true }] ∧ w' = w.setCell ⟨bn, 0, none⟩ (.int .i64 (IntKind.i64.wrap (x + 1))) := by
  refine callsD_of_wpS Tryd.func45 rfl fun c₀ cs hu => ?_
  apply wpS_seq
  apply wpS_region
  simp [wpOpsS, go_sem, recoverD, hu, Tryd.ntmps45, Exit.thenS]
  apply wpS_region
  simp [wpOpsS, go_sem, hl, h, hn, hz]
  simp [bodyPostS, results, Tryd.results45]
theorem calm_walk (S : Store) (hT : Tab S) (w : World) (hw : S.le (Store.of w)) (b c : Nat) (x : Int) (hx : inI64 x) (h : w.cell? ⟨b, 0, none⟩ = some (.int .i64 x)) :
    Calls Tryd.prog 32 #[.slice (some ⟨b, 0, none⟩) 1 c] w fun e w' => Old w w' ∧ e = .returned (.int .i64 (IntKind.i64.wrap (x + 1))) := by
  have hmf : ∀ (fn : Fn) (first cap : Array Value) (w : World), (Instr.makeFunc fn first cap).run Tryd.prog w = .ok (.func fn first cap) w := fun _ _ _ _ => rfl
  have hE : ∀ args w, (callFunc 46 args).run Tryd.prog w = .ok (.enter 46 args) w := enters_of Tryd.func46 (by kernel_rfl) rfl
  have hlow : b < w.heap.size := World.block_lt_of_cell? w ⟨b, 0, none⟩ h
  have hold := (Old.alloc w (Obj.cells #[Value.slice (some ⟨b, 0, none⟩) 1 c] 34)).trans (Old.alloc _ (Obj.cells #[Value.int .i64 0] 2))
  have hcb := hold.cell h
  go_enter_defers Tryd.func32, Tryd.ntmps32
  go_wp2_with (go_at_call 46; refine (text_spec S hT _ x hx (by decide) _ (old_le hw hold)).mono ?_; rintro e w' ⟨v, u, S', rfl, ⟨rfl, -⟩, -, -, hold1, -, -⟩)
  have hold2 := hold.trans hold1
  have ne : (⟨w.heap.size, 0, none⟩ : Addr) ≠ ⟨w.heap.size + 1, 0, none⟩ := fun e => by have := congrArg Addr.block e; simp only at this; omega
  have hcl : w'.cell? ⟨w.heap.size, 0, none⟩ = some (.slice (some ⟨b, 0, none⟩) 1 c) := hold1.cell (by simp [go_sem])
  have hcn : w'.cell? ⟨w.heap.size + 1, 0, none⟩ = some (.int .i64 0) := hold1.cell (by simp [go_sem])
  have hzn : w'.frozen? ⟨w.heap.size + 1, 0, none⟩ = false := hold1.frozen (v := .int .i64 0) (by simp [go_sem]) (by simp [go_sem])
  refine leaves_cons (f := 45) (args := #[.pointer (some ⟨w.heap.size, 0, none⟩), .pointer (some ⟨w.heap.size + 1, 0, none⟩)]) (by simp) (by simp [go_sem]) ?_
  refine (calm1_walk _ w' w.heap.size (w.heap.size + 1) b c x 0 hcl (hold2.cell h) hcn hzn).mono ?_
  rintro e u' w2 ⟨rfl, rfl, rfl⟩
  have c0 : (w'.setCell ⟨w.heap.size + 1, 0, none⟩ (.int .i64 (IntKind.i64.wrap (x + 1)))).cell? ⟨w.heap.size + 1, 0, none⟩ = some (.int .i64 (IntKind.i64.wrap (x + 1))) := World.cell?_setCell_same _ _ _ hcn
  simp [Leaves, settle, results, Tryd.results32, go_sem, c0]
  exact hold2.set (Nat.le_succ _) _
end Go.Proofs.YtjlkekebhgjlcaaDoor
