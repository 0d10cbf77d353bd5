/- law29: Guard: a call whose panic is contained. -/
import Derived.Test.YtjlkekebhgjlcaaDoorFa
import Derived.Tactics
import Derived.Tactics2
import Derived.Defers
import Derived.Recover
import Derived.Laws.Pointers
import Derived.ProofKit
namespace Go.Proofs.YtjlkekebhgjlcaaDoor
open Go Go.Vc
set_option maxRecDepth 100000

theorem g1_returning (pok pn pw : Addr) (w : World) (hok : w.cell? pok = some (.bool true)) :
    CallsD Tryd.prog 23 #[.pointer (some pok), .pointer (some pn), .pointer (some pw)] .returning w fun e u' w' => e = .returned (.tuple #[]) ∧ u' = .returning ∧ w' = w := by
  refine callsD_of_wpS Tryd.func23 rfl fun c₀ cs hu => ?_
  apply wpS_seq
  apply wpS_region
  simp [wpOpsS, go_sem, recoverD, hu, Tryd.ntmps23, Exit.thenS, hok]
  refine wpS_cond (t := false) (by simp [Act.eval, Array.replicate]) ?_
  simp only [Bool.false_eq_true, if_false]
  refine wpS_of_wp (wp_skip ?_)
  cases c₀
  simp_all [bodyPostS, results, Tryd.results23]

theorem _root_.Go.Vc.Old.cell {w w' : World} (h : Old w w') {p : Addr} {v : Value} (hc : w.cell? p = some v) : w'.cell? p = some v := by
  rw [World.cell?_of_block (h.block p.block (World.block_lt_of_cell? w p hc))]; exact hc
theorem _root_.Go.Vc.Old.frozen {w w' : World} (h : Old w w') {p : Addr} {v : Value} (hc : w.cell? p = some v) {b : Bool} (hz : w.frozen? p = b) : w'.frozen? p = b := by
  rw [World.frozen?_of_block (h.block p.block (World.block_lt_of_cell? w p hc))]; exact hz
theorem g1_panicking (pok pn pw : Addr) (hne : pn ≠ pw) (x : Int) (y s : ByteArray) (v : Value) (older : List PanicEntry) (w : World) (hok : w.cell? pok = some (.bool false)) (hn : w.cell? pn = some (.int .i64 x)) (hw : w.cell? pw = some (.string y)) (hzn : w.frozen? pn = false) (hzw : w.frozen? pw = false)
    (S : Store) (hS : S.le (Store.of w)) (hs : Pure Tryd.prog 24 S [v] (A := Unit) (fun _ => rS s) (fun _ _ => True)) :
    CallsD Tryd.prog 23 #[.pointer (some pok), .pointer (some pn), .pointer (some pw)] (.panicking ({ v := v, recovered := false } :: older)) w fun e u' w' =>
      e = .returned (.tuple #[]) ∧ u' = .panicking ({ v := v, recovered := true } :: older) ∧ ∃ w1, Old w w1 ∧ w' = (w1.setCell pn (.int .i64 0)).setCell pw (.string s) := by
  refine callsD_of_wpS Tryd.func23 rfl fun c₀ cs hu => ?_
  apply wpS_seq
  apply wpS_region
  simp [wpOpsS, go_sem, recoverD, hu, Tryd.ntmps23, Exit.thenS, hok]
  refine wpS_cond (t := true) (by simp [Act.eval, Array.replicate]) ?_
  simp only [if_true]
  apply wpS_region
  simp [wpOpsS, go_sem, hu, recoverD]
  refine (hs w hS).mono ?_
  rintro e w1 ⟨v', x', S', rfl, hrel, -, -, hold, -, -⟩
  obtain ⟨rfl, -⟩ := hrel
  have hn1 := hold.cell hn
  have hw1 := hold.cell hw
  have hzn1 := hold.frozen hn hzn
  have hzw1 := hold.frozen hw hzw
  simp [go_sem, hn1, hzn1]
  have hw2 : (w1.setCell pn (Value.int IntKind.i64 0)).cell? pw = some (.string y) := by
    rw [World.cell?_setCell_other _ _ _ _ hne]; exact hw1
  simp [go_sem, hw2, hzw1]
  simp [bodyPostS, results, Tryd.results23]
  exact ⟨w1, hold, rfl⟩

/-- A call that reads what the store knows and turns nothing that was there; it may end in a panic. -/
def PureX (S : Store) (f : FuncId) (args : List Value) (E : Ending → Prop) : Prop :=
  ∀ w : World, S.le (Store.of w) → Calls Tryd.prog f args.toArray w fun e w' => Old w w' ∧ E e

theorem alloc_size (w : World) (o : Obj) : (w.alloc o).heap.size = w.heap.size + 1 := Array.size_push _
theorem _root_.Go.Vc.Old.alloc (w : World) (o : Obj) : Old w (w.alloc o) := ⟨rfl, rfl, rfl, by rw [alloc_size]; omega, fun k hk => heap_alloc_old w o hk⟩
theorem _root_.Go.Vc.Old.trans {a b c : World} (h : Old a b) (k : Old b c) : Old a c :=
  ⟨k.os.trans h.os, k.tape.trans h.tape, k.output.trans h.output, Nat.le_trans h.size k.size, fun i hi => (k.block i (Nat.lt_of_lt_of_le hi h.size)).trans (h.block i hi)⟩
theorem _root_.Go.Vc.Old.set {a b : World} (h : Old a b) {p : Addr} (hp : a.heap.size ≤ p.block) (v : Value) : Old a (b.setCell p v) := by
  refine ⟨h.os, h.tape, h.output, by rw [World.size_setCell]; exact h.size, fun i hi => ?_⟩
  rw [heap_setCell_other b p i v (by omega)]
  exact h.block i hi
theorem guard_spec (S : Store) (g : FuncId) (caps : List Value) (E : Ending → Prop) (out : Int × ByteArray × Bool → Prop) (hE : Enters Tryd.prog g) (hc : PureX S g caps E)
    (hr : ∀ e, E e → (∃ n, e = .returned (.int .i64 n) ∧ out (n, ByteArray.empty, true)) ∨ (∃ v s older, e = .panicked ({ v := v, recovered := false } :: older) ∧ older.dropWhile (!·.goexit) = [] ∧ Pure Tryd.prog 24 S [v] (A := Unit) (fun _ => rS s) (fun _ _ => True) ∧ out (0, s, false))) :
    Pure Tryd.prog 8 S [.func (.func g) #[] caps.toArray] (A := Int × ByteArray × Bool) (fun x => .tup [(false, [.v (.int .i64 x.1)]), (false, [.v (.string x.2.1)]), (false, [.v (.bool x.2.2)])]) (fun _ x => out x) := by
  have hmf : ∀ (fn : Fn) (first cap : Array Value) (w : World), (Instr.makeFunc fn first cap).run Tryd.prog w = .ok (.func fn first cap) w := fun _ _ _ _ => rfl
  have hnil : ∀ w, (binOp .eql 27 (.func (.func g) #[] caps.toArray) .nilFunc).run Tryd.prog w = .ok (.bool false) w := by
    intro w
    simp only [binOp, Sem.run_bind, run_equal_nil Tryd.underlying27 (.inr ⟨_, _, _, rfl⟩), Result.andThen, Sem.run_pure, isNilFunc]
  have hE' : ∀ args w, (callFunc g args).run Tryd.prog w = .ok (.enter g args) w := hE
  intro w hw
  go_enter_defers Tryd.func8, Tryd.ntmps8
  go_wp2
  have hle : ∀ (w' : World), Old w w' → S.le (Store.of w') := fun w' hold => Store.le_of hw fun b hk => hold.block b (by
    rcases Nat.lt_or_ge b w.heap.size with hb | hb
    · exact hb
    · have := Store.lt_of hw hb
      rcases hk with ⟨o, x, hx⟩ | ⟨x, hx⟩
      · rw [this.1 o] at hx; cases hx
      · rw [this.2] at hx; cases hx)
  generalize hw3 : ((w.alloc (Obj.cells #[Value.int IntKind.i64 0] 2)).alloc (Obj.cells #[Value.string { data := #[] }] 9)).alloc (Obj.cells #[Value.bool false] 4) = w3
  have hold3 : Old w w3 := by
    rw [← hw3]
    exact ((Old.alloc w _).trans (Old.alloc _ _)).trans (Old.alloc _ _)
  have hcn : w3.cell? ⟨w.heap.size, 0, none⟩ = some (.int .i64 0) := by rw [← hw3]; simp [go_sem]
  have hcw : w3.cell? ⟨w.heap.size + 1, 0, none⟩ = some (.string ⟨#[]⟩) := by rw [← hw3]; simp [go_sem]
  have hco : w3.cell? ⟨w.heap.size + 1 + 1, 0, none⟩ = some (.bool false) := by rw [← hw3]; simp [go_sem]
  have hzn : w3.frozen? ⟨w.heap.size, 0, none⟩ = false := by rw [← hw3]; simp [go_sem]
  have hzw : w3.frozen? ⟨w.heap.size + 1, 0, none⟩ = false := by rw [← hw3]; simp [go_sem]
  have hzo : w3.frozen? ⟨w.heap.size + 1 + 1, 0, none⟩ = false := by rw [← hw3]; simp [go_sem]
  refine (hc w3 (hle w3 hold3)).mono ?_
  rintro e w4 ⟨hold4, he⟩
  have ne01 : (⟨w.heap.size, 0, none⟩ : Addr) ≠ ⟨w.heap.size + 1, 0, none⟩ := fun e => by have := congrArg Addr.block e; simp only at this; omega
  have ne02 : (⟨w.heap.size, 0, none⟩ : Addr) ≠ ⟨w.heap.size + 1 + 1, 0, none⟩ := fun e => by have := congrArg Addr.block e; simp only at this; omega
  have ne12 : (⟨w.heap.size + 1, 0, none⟩ : Addr) ≠ ⟨w.heap.size + 1 + 1, 0, none⟩ := fun e => by have := congrArg Addr.block e; simp only at this; omega
  rcases hr e he with ⟨n, rfl, ho⟩ | ⟨v, s, older, rfl, hol, hs, ho⟩
  · have hcn4 := hold4.cell hcn
    have hcw4 := hold4.cell hcw
    have hco4 := hold4.cell hco
    have hzn4 := hold4.frozen hcn hzn
    have hzw4 := hold4.frozen hcw hzw
    have hzo4 := hold4.frozen hco hzo
    go_wp2
    generalize hw5 : ((((w4.setCell ⟨w.heap.size, 0, none⟩ (Value.int IntKind.i64 n)).setCell ⟨w.heap.size, 0, none⟩ (Value.int IntKind.i64 n)).setCell ⟨w.heap.size + 1, 0, none⟩ (Value.string ⟨#[]⟩)).setCell ⟨w.heap.size + 1 + 1, 0, none⟩ (Value.bool true)) = w5
    have hold5 : Old w w5 := by
      rw [← hw5]
      exact ((((hold3.trans hold4).set (Nat.le_refl _) _).set (Nat.le_refl _) _).set (Nat.le_succ _) _).set (by show w.heap.size ≤ w.heap.size + 1 + 1; omega) _
    have c0 : w5.cell? ⟨w.heap.size, 0, none⟩ = some (.int .i64 n) := by
      rw [← hw5, World.cell?_setCell_other _ _ _ _ ne02.symm, World.cell?_setCell_other _ _ _ _ ne01.symm]
      exact World.cell?_setCell_same _ _ _ (World.cell?_setCell_same _ _ _ hcn4)
    have c1 : w5.cell? ⟨w.heap.size + 1, 0, none⟩ = some (.string ⟨#[]⟩) := by
      rw [← hw5, World.cell?_setCell_other _ _ _ _ ne12.symm]
      refine World.cell?_setCell_same _ _ _ (u := .string ⟨#[]⟩) ?_
      rw [World.cell?_setCell_other _ _ _ _ ne01, World.cell?_setCell_other _ _ _ _ ne01]
      exact hcw4
    have c2 : w5.cell? ⟨w.heap.size + 1 + 1, 0, none⟩ = some (.bool true) := by
      rw [← hw5]
      refine World.cell?_setCell_same _ _ _ (u := .bool false) ?_
      rw [World.cell?_setCell_other _ _ _ _ ne12, World.cell?_setCell_other _ _ _ _ ne02, World.cell?_setCell_other _ _ _ _ ne02]
      exact hco4
    refine leaves_cons (f := 23) (args := #[.pointer (some ⟨w.heap.size + 1 + 1, 0, none⟩), .pointer (some ⟨w.heap.size, 0, none⟩), .pointer (some ⟨w.heap.size + 1, 0, none⟩)]) (by simp) (by simp [go_sem]) ?_
    refine (g1_returning _ _ _ w5 c2).mono ?_
    rintro e u' w6 ⟨rfl, rfl, rfl⟩
    simp [Leaves, settle, results, Tryd.results8, go_sem, c0, c1, c2]
    exact ⟨n, ⟨#[]⟩, .inr ⟨⟨[_, _, _], rfl, ⟨rfl, rfl⟩, ⟨rfl, rfl⟩, ⟨rfl, rfl⟩, trivial⟩, S, Store.le_refl _, hle w6 hold5, hold5, fun _ _ => ⟨fun _ => rfl, rfl⟩, ho⟩⟩
  · have hcn4 := hold4.cell hcn
    have hcw4 := hold4.cell hcw
    have hco4 := hold4.cell hco
    have hzn4 := hold4.frozen hcn hzn
    have hzw4 := hold4.frozen hcw hzw
    refine leaves_cons (f := 23) (args := #[.pointer (some ⟨w.heap.size + 1 + 1, 0, none⟩), .pointer (some ⟨w.heap.size, 0, none⟩), .pointer (some ⟨w.heap.size + 1, 0, none⟩)]) (by simp) (by simp [go_sem]) ?_
    refine (g1_panicking _ _ _ ne01 _ _ s v older w4 hco4 hcn4 hcw4 hzn4 hzw4 S (hle w4 (hold3.trans hold4)) hs).mono ?_
    rintro e u' w6 ⟨rfl, rfl, w5, hold5, rfl⟩
    have hcn5 := hold5.cell hcn4
    have hcw5 := hold5.cell hcw4
    have hco5 := hold5.cell hco4
    have hold6 : Old w ((w5.setCell ⟨w.heap.size, 0, none⟩ (.int .i64 0)).setCell ⟨w.heap.size + 1, 0, none⟩ (.string s)) :=
      (((hold3.trans hold4).trans hold5).set (Nat.le_refl _) _).set (Nat.le_succ _) _
    generalize hw6 : (w5.setCell ⟨w.heap.size, 0, none⟩ (.int .i64 0)).setCell ⟨w.heap.size + 1, 0, none⟩ (.string s) = w6 at hold6
    have c0 : w6.cell? ⟨w.heap.size, 0, none⟩ = some (.int .i64 0) := by
      rw [← hw6, World.cell?_setCell_other _ _ _ _ ne01.symm]
      exact World.cell?_setCell_same _ _ _ hcn5
    have c1 : w6.cell? ⟨w.heap.size + 1, 0, none⟩ = some (.string s) := by
      rw [← hw6]
      refine World.cell?_setCell_same _ _ _ (u := .string ⟨#[]⟩) ?_
      rw [World.cell?_setCell_other _ _ _ _ ne01]
      exact hcw5
    have c2 : w6.cell? ⟨w.heap.size + 1 + 1, 0, none⟩ = some (.bool false) := by
      rw [← hw6, World.cell?_setCell_other _ _ _ _ ne12, World.cell?_setCell_other _ _ _ _ ne02]
      exact hco5
    simp [Leaves, settle, results, Tryd.results8, go_sem, c0, c1, c2, hol]
    exact ⟨0, s, .inl ⟨⟨[_, _, _], rfl, ⟨rfl, rfl⟩, ⟨rfl, rfl⟩, ⟨rfl, rfl⟩, trivial⟩, S, Store.le_refl _, hle w6 hold6, hold6, fun _ _ => ⟨fun _ => rfl, rfl⟩, ho⟩⟩
end Go.Proofs.YtjlkekebhgjlcaaDoor
