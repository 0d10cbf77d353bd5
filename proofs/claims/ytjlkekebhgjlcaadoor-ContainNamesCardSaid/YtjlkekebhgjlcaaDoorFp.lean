/- law29, Nests: the nested function. -/
import Derived.Test.YtjlkekebhgjlcaaDoorFn
namespace Go.Proofs.YtjlkekebhgjlcaaDoor
open Go Go.Vc
set_option maxRecDepth 100000

/-- The blocks that the nested function reads. -/
structure NS (w : World) (bo bd bD bk bn : Nat) (deep k n : Int) : Prop where
  d : w.cell? ⟨bd, 0, none⟩ = some (.int .i64 deep)
  f : w.cell? ⟨bD, 0, none⟩ = some (.func (.func 12) #[] #[.pointer (some ⟨bo, 0, none⟩), .pointer (some ⟨bd, 0, none⟩), .pointer (some ⟨bD, 0, none⟩), .pointer (some ⟨bk, 0, none⟩), .pointer (some ⟨bn, 0, none⟩)])
  k : w.cell? ⟨bk, 0, none⟩ = some (.int .i64 k)
  n : w.cell? ⟨bn, 0, none⟩ = some (.int .i64 n)
  od : bd ≠ bo
  of : bD ≠ bo
  ok : bk ≠ bo
  on : bn ≠ bo
theorem NS.keep {w w' : World} {bo bd bD bk bn : Nat} {deep k n : Int} (h : NS w bo bd bD bk bn deep k n) (ho : OldX (fun b => b = bo) w w') : NS w' bo bd bD bk bn deep k n :=
  ⟨ho.cell h.od h.d, ho.cell h.of h.f, ho.cell h.ok h.k, ho.cell h.on h.n, h.od, h.of, h.ok, h.on⟩

/-- How the nested function ends. -/
def nestE (k n i : Int) (e : Ending) : Prop := if i = k then e = .panicked [{ v := .iface 9 (.string ⟨#[104, 101, 114, 101]⟩), recovered := false }] else e = .returned (.int .i64 (RowKit.wrap64 (n + i)))

/-- The end of the nested function: the deferred closure runs, in whatever way the body ends. -/
theorem nest_tail (w w1 : World) (bo : Nat) (L : List Int) (i : Int) (hL : L.length ≤ 1000) (hz : bo < w.heap.size) (h1 : OldX (fun b => b = bo) w w1) (ho : OrdAt w1 (w.heap.size + 1) bo L) (hc : ∃ T, w1.heap[w.heap.size]? = some (.cells #[.int .i64 i] T (0, 0))) (u : FrameMode) :
    CallsD Tryd.prog 13 #[.pointer (some ⟨bo, 0, none⟩), .pointer (some ⟨w.heap.size, 0, none⟩)] u w1 fun e u' w' => u' = u ∧ e = .returned (.tuple #[]) ∧ OrdAt w' w.heap.size bo (L ++ [i]) ∧ OldX (fun b => b = bo) w w' := by
  refine (append_walk u w1 bo w.heap.size L i hL hz ho hc).mono ?_
  rintro e u' w' ⟨hu, he, ⟨h, T, k0, k1, k2, k3, k4⟩, hx⟩
  refine ⟨hu, he, ⟨h, T, k0, k1, k2, k3, fun b hb => ⟨by have := (k4 b hb).1; omega, (k4 b hb).2⟩⟩, ?_⟩
  exact ⟨hx.os.trans h1.os, hx.tape.trans h1.tape, hx.output.trans h1.output, Nat.le_trans h1.size hx.size, fun b hb hp => (hx.block b (Nat.lt_of_lt_of_le hb h1.size) (fun h => h.elim hp (fun h => by omega))).trans (h1.block b hb hp)⟩

/-- The order before the first deferred call. -/
def OrdNil (w : World) (bo : Nat) : Prop := ∃ T, w.heap[bo]? = some (.cells #[.slice none 0 0] T (0, 0))
theorem OrdNil.at {w : World} {bo : Nat} (h : OrdNil w bo) (lo : Nat) : OrdAt w lo bo [] := by
  obtain ⟨T, h⟩ := h
  exact ⟨_, T, h, rfl, ⟨rfl, .inl ⟨rfl, rfl⟩⟩, fun x hx => (by cases hx), fun b hb => (by cases hb)⟩
theorem OrdNil.lt {w : World} {bo : Nat} (h : OrdNil w bo) : bo < w.heap.size := by
  obtain ⟨T, h⟩ := h
  exact (Array.getElem?_eq_some_iff.1 h).1
theorem OrdNil.old {w w' : World} {bo : Nat} (h : OrdNil w bo) (ho : Old w w') : OrdNil w' bo := by
  obtain ⟨T, hb⟩ := h
  exact ⟨T, by rw [ho.block bo (Array.getElem?_eq_some_iff.1 hb).1]; exact hb⟩
theorem OrdAt.keep {w w' : World} {lo bo : Nat} {L : List Int} (h : OrdAt w lo bo L) (hk : ∀ b, b < w.heap.size → (b = bo ∨ lo ≤ b) → w'.heap[b]? = w.heap[b]?) : OrdAt w' lo bo L := by
  obtain ⟨h, T, k0, k1, k2, k3, k4⟩ := h
  refine ⟨h, T, by rw [hk bo (Array.getElem?_eq_some_iff.1 k0).1 (.inl rfl)]; exact k0, k1, ⟨k2.1, ?_⟩, k3, k4⟩
  rcases k2.2 with h1 | ⟨g, cap, cur, rfl, h1, h2, h3⟩
  · exact .inl h1
  · exact .inr ⟨g, cap, cur, rfl, h1, by rw [hk g (Array.getElem?_eq_some_iff.1 h2).1 (.inr (k4 g rfl).1)]; exact h2, h3⟩

def desc (deep : Int) : Nat → List Int
  | 0 => [deep]
  | m + 1 => desc deep m ++ [deep - (m + 1)]
theorem desc_length (deep : Int) : ∀ m, (desc deep m).length = m + 1
  | 0 => rfl
  | m + 1 => by simp [desc, desc_length deep m]

theorem do_last (w : World) (bo bd bD bk bn : Nat) (deep k n : Int) (h : NS w bo bd bD bk bn deep k n) (ho : OrdNil w bo) :
    Calls Tryd.prog 12 #[.int .i64 deep, .pointer (some ⟨bo, 0, none⟩), .pointer (some ⟨bd, 0, none⟩), .pointer (some ⟨bD, 0, none⟩), .pointer (some ⟨bk, 0, none⟩), .pointer (some ⟨bn, 0, none⟩)] w fun e w' => nestE k n deep e ∧ OrdAt w' w.heap.size bo [deep] ∧ OldX (fun b => b = bo) w w' := by
  have hmf : ∀ (fn : Fn) (first cap : Array Value) (w : World), (Instr.makeFunc fn first cap).run Tryd.prog w = .ok (.func fn first cap) w := fun _ _ _ _ => rfl
  have al : ∀ {a : Addr} {v : Value} (o : Obj), w.cell? a = some v → (w.alloc o).cell? a = some v := fun o hc => (Old.alloc w o).cell hc
  have hc1 : ∀ o, (w.alloc o).cell? ⟨bd, 0, none⟩ = some (.int .i64 deep) := fun o => al o h.d
  have hc2 : ∀ o, (w.alloc o).cell? ⟨bk, 0, none⟩ = some (.int .i64 k) := fun o => al o h.k
  have hc3 : ∀ o, (w.alloc o).cell? ⟨bn, 0, none⟩ = some (.int .i64 n) := fun o => al o h.n
  by_cases e1 : deep = k
  · simp only [nestE, if_pos e1]
    subst e1
    go_enter_defers Tryd.func12, Tryd.ntmps12
    go_wp2
    refine leaves_cons (f := 13) (args := #[.pointer (some ⟨bo, 0, none⟩), .pointer (some ⟨w.heap.size, 0, none⟩)]) (by simp) (by simp [go_sem]) ?_
    refine (nest_tail w _ bo [] deep (by decide) ho.lt (OldX.of (Old.alloc w _)) ((ho.old (Old.alloc w _)).at _) ⟨3, heap_alloc_new w _⟩ _).mono ?_
    rintro e u' w' ⟨rfl, rfl, h1, h2⟩
    exact ⟨rfl, h1, h2⟩
  · simp only [nestE, if_neg e1]
    go_enter_defers Tryd.func12, Tryd.ntmps12
    go_wp2
    refine leaves_cons (f := 13) (args := #[.pointer (some ⟨bo, 0, none⟩), .pointer (some ⟨w.heap.size, 0, none⟩)]) (by simp) (by simp [go_sem]) ?_
    refine (nest_tail w _ bo [] deep (by decide) ho.lt (OldX.of (Old.alloc w _)) ((ho.old (Old.alloc w _)).at _) ⟨3, heap_alloc_new w _⟩ _).mono ?_
    rintro e u' w' ⟨rfl, rfl, h1, h2⟩
    exact ⟨.int .i64 (RowKit.wrap64 (n + deep)), by simp [results, Tryd.results12, go_sem], rfl, h1, h2⟩

/-- What Guard makes of it. -/
def nestR (k n i : Int) : Int × ByteArray × Bool := if i = k then (0, ⟨#[104, 101, 114, 101]⟩, false) else (RowKit.wrap64 (n + i), ByteArray.empty, true)

/-- The closure that calls the next one. -/
theorem next_walk (w : World) (bo bd bD bk bn bi : Nat) (deep k n i j : Int) (hi : 0 ≤ i) (hi2 : i ≤ 20) (hij : i + 1 = j) (h : NS w bo bd bD bk bn deep k n) (hci : w.cell? ⟨bi, 0, none⟩ = some (.int .i64 i)) (R : Ending → World → Prop)
    (hc : Calls Tryd.prog 12 #[.int .i64 j, .pointer (some ⟨bo, 0, none⟩), .pointer (some ⟨bd, 0, none⟩), .pointer (some ⟨bD, 0, none⟩), .pointer (some ⟨bk, 0, none⟩), .pointer (some ⟨bn, 0, none⟩)] w fun e w' => nestE k n j e ∧ R e w') :
    Calls Tryd.prog 14 #[.pointer (some ⟨bD, 0, none⟩), .pointer (some ⟨bi, 0, none⟩)] w fun e w' => nestE k n j e ∧ R e w' := by
  have hE : ∀ args w, (callFunc 12 args).run Tryd.prog w = .ok (.enter 12 args) w := enters_of Tryd.func12 (by kernel_rfl) rfl
  have h1 := h.f
  by_cases e1 : j = k
  · subst e1
    simp only [nestE, if_true] at hc ⊢
    go_enter Tryd.func14, Tryd.ntmps14
    go_wp2_with (go_at_call 12; refine hc.mono ?_; rintro e w' ⟨rfl, hR⟩)
    exact ⟨rfl, rfl, hR⟩
  · simp only [nestE, if_neg e1] at hc ⊢
    go_enter Tryd.func14, Tryd.ntmps14
    go_wp2_with (go_at_call 12; refine hc.mono ?_; rintro e w' ⟨rfl, hR⟩)
    go_ret
    exact ⟨rfl, hR⟩

/-- Guard over that closure. -/
theorem nest_guard (w : World) (bo bd bD bk bn bi : Nat) (deep k n i j : Int) (L : List Int) (hi : 0 ≤ i) (hi2 : i ≤ 20) (hij : i + 1 = j) (h : NS w bo bd bD bk bn deep k n) (hci : w.cell? ⟨bi, 0, none⟩ = some (.int .i64 i)) (hb : bo < w.heap.size)
    (hc : ∀ w3, Old w w3 → Calls Tryd.prog 12 #[.int .i64 j, .pointer (some ⟨bo, 0, none⟩), .pointer (some ⟨bd, 0, none⟩), .pointer (some ⟨bD, 0, none⟩), .pointer (some ⟨bk, 0, none⟩), .pointer (some ⟨bn, 0, none⟩)] w3 fun e w' => nestE k n j e ∧ OrdAt w' w3.heap.size bo L ∧ OldX (fun b => b = bo) w3 w') :
    Calls Tryd.prog 8 #[.func (.func 14) #[] #[.pointer (some ⟨bD, 0, none⟩), .pointer (some ⟨bi, 0, none⟩)]] w fun e w' => e = .returned (.tuple #[.int .i64 (nestR k n j).1, .string (nestR k n j).2.1, .bool (nestR k n j).2.2]) ∧ OrdAt w' (w.heap.size + 3) bo L ∧ OldX (fun b => b = bo) w w' := by
  refine (guard_core2 (fun b => b = bo) w (fun b hb' => by rw [hb']; exact hb) 14 [_, _] (fun e w4 => nestE k n j e ∧ OrdAt w4 (w.heap.size + 3) bo L) (fun x w4 => x = nestR k n j ∧ OrdAt w4 (w.heap.size + 3) bo L) (enters_of Tryd.func14 (by kernel_rfl) rfl) (fun w3 hold hz3 => ?_) (fun e w4 he => ?_)).mono ?_
  · refine (next_walk w3 bo bd bD bk bn bi deep k n i j hi hi2 hij (h.keep (OldX.of hold)) (hold.cell hci) _ (hc w3 hold)).mono ?_
    rintro e w4 ⟨he, ho, hx⟩
    rw [hz3] at ho
    exact ⟨hx, he, ho⟩
  · obtain ⟨he, ho⟩ := he
    unfold nestE at he
    unfold nestR
    split at he
    · rename_i e1; rw [if_pos e1]; exact .inr ⟨_, _, [], ⟨fun _ _ => none, fun _ => none⟩, he, rfl, ⟨fun _ _ _ h => (by cases h), fun _ _ h => (by cases h)⟩, said_string _ _, rfl, ho⟩
    · rename_i e1; rw [if_neg e1]; exact .inl ⟨_, he, rfl, ho⟩
  · rintro e w' ⟨x, w4, rfl, ⟨rfl, ho⟩, hx, hsz, hkeep⟩
    exact ⟨rfl, ho.keep fun b hb' hc => hkeep b hb' (hc.elim (fun e => .inl (by rw [e]; exact hb)) .inr), hx⟩

theorem do_next (m : Nat) (w : World) (bo bd bD bk bn : Nat) (deep k n i j : Int) (hi : 0 ≤ i) (hid : i < deep) (hd : deep ≤ 20) (hij : i + 1 = j) (hm : m ≤ 20) (h : NS w bo bd bD bk bn deep k n) (ho : OrdNil w bo)
    (ih : ∀ w3, NS w3 bo bd bD bk bn deep k n → OrdNil w3 bo → Calls Tryd.prog 12 #[.int .i64 j, .pointer (some ⟨bo, 0, none⟩), .pointer (some ⟨bd, 0, none⟩), .pointer (some ⟨bD, 0, none⟩), .pointer (some ⟨bk, 0, none⟩), .pointer (some ⟨bn, 0, none⟩)] w3 fun e w' => nestE k n j e ∧ OrdAt w' w3.heap.size bo (desc deep m) ∧ OldX (fun b => b = bo) w3 w') :
    Calls Tryd.prog 12 #[.int .i64 i, .pointer (some ⟨bo, 0, none⟩), .pointer (some ⟨bd, 0, none⟩), .pointer (some ⟨bD, 0, none⟩), .pointer (some ⟨bk, 0, none⟩), .pointer (some ⟨bn, 0, none⟩)] w fun e w' => nestE k n i e ∧ OrdAt w' w.heap.size bo (desc deep m ++ [i]) ∧ OldX (fun b => b = bo) w w' := by
  have hmf : ∀ (fn : Fn) (first cap : Array Value) (w : World), (Instr.makeFunc fn first cap).run Tryd.prog w = .ok (.func fn first cap) w := fun _ _ _ _ => rfl
  have hE : ∀ args w, (callFunc 8 args).run Tryd.prog w = .ok (.enter 8 args) w := enters_of Tryd.func8 (by kernel_rfl) rfl
  have al : ∀ {a : Addr} {v : Value} (o : Obj), w.cell? a = some v → (w.alloc o).cell? a = some v := fun o hc => (Old.alloc w o).cell hc
  have hc1 : ∀ o, (w.alloc o).cell? ⟨bd, 0, none⟩ = some (.int .i64 deep) := fun o => al o h.d
  have hg : Calls Tryd.prog 8 #[.func (.func 14) #[] #[.pointer (some ⟨bD, 0, none⟩), .pointer (some ⟨w.heap.size, 0, none⟩)]] (w.alloc (Obj.cells #[.int .i64 i] 3)) fun e w' => e = .returned (.tuple #[.int .i64 (nestR k n j).1, .string (nestR k n j).2.1, .bool (nestR k n j).2.2]) ∧
      w'.cell? ⟨bk, 0, none⟩ = some (.int .i64 k) ∧ w'.cell? ⟨bn, 0, none⟩ = some (.int .i64 n) ∧ w'.cell? ⟨w.heap.size, 0, none⟩ = some (.int .i64 i) ∧ (∃ T, w'.heap[w.heap.size]? = some (.cells #[.int .i64 i] T (0, 0))) ∧ OrdAt w' (w.heap.size + 1) bo (desc deep m) ∧ OldX (fun b => b = bo) w w' := by
    have h1 := h.keep (OldX.of (Old.alloc w (Obj.cells #[.int .i64 i] 3)))
    refine (nest_guard (w.alloc (Obj.cells #[.int .i64 i] 3)) bo bd bD bk bn w.heap.size deep k n i j (desc deep m) hi (by omega) hij h1 (by simp [go_sem]) (ho.old (Old.alloc w _)).lt (fun w3 hold => ih w3 (h1.keep (OldX.of hold)) (ho.old ((Old.alloc w _).trans hold)))).mono ?_
    rintro e w' ⟨he, h2, hx⟩
    have h3 := h1.keep hx
    have hlt := ho.lt
    have hb : w'.heap[w.heap.size]? = some (.cells #[.int .i64 i] 3 (0, 0)) := by
      rw [hx.block w.heap.size (by rw [alloc_size]; omega) (by omega)]; exact heap_alloc_new w _
    refine ⟨he, h3.k, h3.n, (one_cell hb).1, ⟨3, hb⟩, ?_, (OldX.of (Old.alloc w _)).trans hx⟩
    obtain ⟨a, T, k0, k1, k2, k3, k4⟩ := h2
    exact ⟨a, T, k0, k1, k2, k3, fun b hb => ⟨by have := (k4 b hb).1; rw [alloc_size] at this; omega, (k4 b hb).2⟩⟩
  have hlen : (desc deep m).length ≤ 1000 := by rw [desc_length]; omega
  by_cases e1 : i = k
  · subst e1
    have hR : nestR i n j = (RowKit.wrap64 (n + j), ByteArray.empty, true) := if_neg (by omega)
    simp only [nestE, if_true]
    rw [hR] at hg
    go_enter_defers Tryd.func12, Tryd.ntmps12
    go_wp2_with (go_at_call 8; refine hg.mono ?_; rintro e w' ⟨rfl, g1, g2, g3, g4, g5, g6⟩)
    refine leaves_cons (f := 13) (args := #[.pointer (some ⟨bo, 0, none⟩), .pointer (some ⟨w.heap.size, 0, none⟩)]) (by simp) (by simp [go_sem]) ?_
    refine (nest_tail w w' bo (desc deep m) i hlen ho.lt g6 g5 g4 _).mono ?_
    rintro e u' w'' ⟨rfl, rfl, h1, h2⟩
    exact ⟨rfl, h1, h2⟩
  · by_cases e2 : j = k
    · subst e2
      have hR : nestR j n j = (0, ⟨#[104, 101, 114, 101]⟩, false) := if_pos rfl
      simp only [nestE, if_neg e1]
      rw [hR] at hg
      go_enter_defers Tryd.func12, Tryd.ntmps12
      go_wp2_with (go_at_call 8; refine hg.mono ?_; rintro e w' ⟨rfl, g1, g2, g3, g4, g5, g6⟩)
      refine leaves_cons (f := 13) (args := #[.pointer (some ⟨bo, 0, none⟩), .pointer (some ⟨w.heap.size, 0, none⟩)]) (by simp) (by simp [go_sem]) ?_
      refine (nest_tail w w' bo (desc deep m) i hlen ho.lt g6 g5 g4 _).mono ?_
      rintro e u' w'' ⟨rfl, rfl, h1, h2⟩
      exact ⟨.int .i64 (RowKit.wrap64 (n + i)), by simp [results, Tryd.results12, go_sem], rfl, h1, h2⟩
    · have hR : nestR k n j = (RowKit.wrap64 (n + j), ByteArray.empty, true) := if_neg e2
      simp only [nestE, if_neg e1]
      rw [hR] at hg
      go_enter_defers Tryd.func12, Tryd.ntmps12
      go_wp2_with (go_at_call 8; refine hg.mono ?_; rintro e w' ⟨rfl, g1, g2, g3, g4, g5, g6⟩)
      refine leaves_cons (f := 13) (args := #[.pointer (some ⟨bo, 0, none⟩), .pointer (some ⟨w.heap.size, 0, none⟩)]) (by simp) (by simp [go_sem]) ?_
      refine (nest_tail w w' bo (desc deep m) i hlen ho.lt g6 g5 g4 _).mono ?_
      rintro e u' w'' ⟨rfl, rfl, h1, h2⟩
      exact ⟨.int .i64 (RowKit.wrap64 (n + i)), by simp [results, Tryd.results12, go_sem], rfl, h1, h2⟩

/-- The nested function from any depth on. -/
theorem do_walk (bo bd bD bk bn : Nat) (deep k n : Int) (hd : deep ≤ 20) : ∀ (m : Nat) (i : Int), 0 ≤ i → i + m = deep → ∀ w, NS w bo bd bD bk bn deep k n → OrdNil w bo →
    Calls Tryd.prog 12 #[.int .i64 i, .pointer (some ⟨bo, 0, none⟩), .pointer (some ⟨bd, 0, none⟩), .pointer (some ⟨bD, 0, none⟩), .pointer (some ⟨bk, 0, none⟩), .pointer (some ⟨bn, 0, none⟩)] w fun e w' => nestE k n i e ∧ OrdAt w' w.heap.size bo (desc deep m) ∧ OldX (fun b => b = bo) w w'
  | 0, i, hi, hm, w, h, ho => by
    obtain rfl : i = deep := by omega
    exact do_last w bo bd bD bk bn i k n h ho
  | m + 1, i, hi, hm, w, h, ho => by
    have e : deep - ((m : Int) + 1) = i := by omega
    have := do_next m w bo bd bD bk bn deep k n i (i + 1) hi (by omega) hd rfl (by omega) h ho (do_walk bo bd bD bk bn deep k n hd m (i + 1) (by omega) (by omega))
    simp only [desc, e]
    exact this
end Go.Proofs.YtjlkekebhgjlcaaDoor
