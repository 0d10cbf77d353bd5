/- law29: Guard over a closure that turns old blocks and makes new ones: what it leaves as it is. -/
import Derived.Test.YtjlkekebhgjlcaaDoorFk
namespace Go.Proofs.YtjlkekebhgjlcaaDoor
open Go Go.Vc
set_option maxRecDepth 100000

theorem guard_core2 (p : Nat → Prop) (w : World) (hp : ∀ b, p b → b < w.heap.size) (g : FuncId) (caps : List Value) (E : Ending → World → Prop) (out : Int × ByteArray × Bool → World → Prop) (hE : Enters Tryd.prog g)
    (hc : ∀ w3, Old w w3 → w3.heap.size = w.heap.size + 3 → Calls Tryd.prog g caps.toArray w3 fun e w4 => OldX p w3 w4 ∧ E e w4)
    (hr : ∀ e w4, E e w4 → (∃ n, e = .returned (.int .i64 n) ∧ out (n, ByteArray.empty, true) w4) ∨ (∃ v s older S, e = .panicked ({ v := v, recovered := false } :: older) ∧ older.dropWhile (!·.goexit) = [] ∧ S.le (Store.of w4) ∧ Pure Tryd.prog 24 S [v] (A := Unit) (fun _ => rS s) (fun _ _ => True) ∧ out (0, s, false) w4)) :
    Calls Tryd.prog 8 #[.func (.func g) #[] caps.toArray] w fun e w' => ∃ (x : Int × ByteArray × Bool) (w4 : World), e = .returned (.tuple #[.int .i64 x.1, .string x.2.1, .bool x.2.2]) ∧ out x w4 ∧ OldX p w w' ∧ w4.heap.size ≤ w'.heap.size ∧ ∀ b, b < w4.heap.size → (b < w.heap.size ∨ w.heap.size + 3 ≤ b) → w'.heap[b]? = w4.heap[b]? := by
  have hmf : ∀ (fn : Fn) (first cap : Array Value) (w : World), (Instr.makeFunc fn first cap).run Tryd.prog w = .ok (.func fn first cap) w := fun _ _ _ _ => rfl
  have hnil : ∀ w, (binOp .eql 27 (.func (.func g) #[] caps.toArray) .nilFunc).run Tryd.prog w = .ok (.bool false) w := by
    intro w
    simp only [binOp, Sem.run_bind, run_equal_nil Tryd.underlying27 (.inr ⟨_, _, _, rfl⟩), Result.andThen, Sem.run_pure, isNilFunc]
  have hE' : ∀ args w, (callFunc g args).run Tryd.prog w = .ok (.enter g args) w := hE
  go_enter_defers Tryd.func8, Tryd.ntmps8
  go_wp2
  generalize hw3 : ((w.alloc (Obj.cells #[Value.int IntKind.i64 0] 2)).alloc (Obj.cells #[Value.string { data := #[] }] 9)).alloc (Obj.cells #[Value.bool false] 4) = w3
  have hold3 : Old w w3 := by
    rw [← hw3]
    exact ((Old.alloc w _).trans (Old.alloc _ _)).trans (Old.alloc _ _)
  have hcn : w3.cell? ⟨w.heap.size, 0, none⟩ = some (.int .i64 0) := by rw [← hw3]; simp [go_sem]
  have hcw : w3.cell? ⟨w.heap.size + 1, 0, none⟩ = some (.string ⟨#[]⟩) := by rw [← hw3]; simp [go_sem]
  have hco : w3.cell? ⟨w.heap.size + 1 + 1, 0, none⟩ = some (.bool false) := by rw [← hw3]; simp [go_sem]
  have hzn : w3.frozen? ⟨w.heap.size, 0, none⟩ = false := by rw [← hw3]; simp [go_sem]
  have hzw : w3.frozen? ⟨w.heap.size + 1, 0, none⟩ = false := by rw [← hw3]; simp [go_sem]
  have hzo : w3.frozen? ⟨w.heap.size + 1 + 1, 0, none⟩ = false := by rw [← hw3]; simp [go_sem]
  have hz3 : w3.heap.size = w.heap.size + 3 := by rw [← hw3]; simp [alloc_size]
  refine (hc w3 hold3 hz3).mono ?_
  rintro e w4 ⟨hold4, he⟩
  have ne01 : (⟨w.heap.size, 0, none⟩ : Addr) ≠ ⟨w.heap.size + 1, 0, none⟩ := fun e => by have := congrArg Addr.block e; simp only at this; omega
  have ne02 : (⟨w.heap.size, 0, none⟩ : Addr) ≠ ⟨w.heap.size + 1 + 1, 0, none⟩ := fun e => by have := congrArg Addr.block e; simp only at this; omega
  have ne12 : (⟨w.heap.size + 1, 0, none⟩ : Addr) ≠ ⟨w.heap.size + 1 + 1, 0, none⟩ := fun e => by have := congrArg Addr.block e; simp only at this; omega
  have np0 : ¬ p w.heap.size := fun h => Nat.lt_irrefl _ (hp _ h)
  have np1 : ¬ p (w.heap.size + 1) := fun h => by have := hp _ h; omega
  have np2 : ¬ p (w.heap.size + 1 + 1) := fun h => by have := hp _ h; omega
  have hold34 := (OldX.of (p := p) hold3).trans hold4
  rcases hr e w4 he with ⟨n, rfl, ho⟩ | ⟨v, s, older, S, rfl, hol, hS4, hs, ho⟩
  · have hcn4 := hold4.cell np0 hcn
    have hcw4 := hold4.cell np1 hcw
    have hco4 := hold4.cell np2 hco
    have hzn4 := hold4.frozen np0 hcn hzn
    have hzw4 := hold4.frozen np1 hcw hzw
    have hzo4 := hold4.frozen np2 hco hzo
    go_wp2
    generalize hw5 : ((((w4.setCell ⟨w.heap.size, 0, none⟩ (Value.int IntKind.i64 n)).setCell ⟨w.heap.size, 0, none⟩ (Value.int IntKind.i64 n)).setCell ⟨w.heap.size + 1, 0, none⟩ (Value.string ⟨#[]⟩)).setCell ⟨w.heap.size + 1 + 1, 0, none⟩ (Value.bool true)) = w5
    have hkeep : ∀ b, b < w4.heap.size → (b < w.heap.size ∨ w.heap.size + 3 ≤ b) → w5.heap[b]? = w4.heap[b]? := fun b _ hb => by
      rw [← hw5, heap_setCell_other _ _ b _ (by show b ≠ w.heap.size + 1 + 1; omega), heap_setCell_other _ _ b _ (by show b ≠ w.heap.size + 1; omega), heap_setCell_other _ _ b _ (by show b ≠ w.heap.size; omega), heap_setCell_other _ _ b _ (by show b ≠ w.heap.size; omega)]
    have hsz : w4.heap.size ≤ w5.heap.size := by rw [← hw5]; simp
    have hold5 : OldX p w w5 := by
      rw [← hw5]
      exact (((hold34.set (Nat.le_refl _) _).set (Nat.le_refl _) _).set (Nat.le_succ _) _).set (by show w.heap.size ≤ w.heap.size + 1 + 1; omega) _
    have c0 : w5.cell? ⟨w.heap.size, 0, none⟩ = some (.int .i64 n) := by
      rw [← hw5, World.cell?_setCell_other _ _ _ _ ne02.symm, World.cell?_setCell_other _ _ _ _ ne01.symm]
      exact World.cell?_setCell_same _ _ _ (World.cell?_setCell_same _ _ _ hcn4)
    have c1 : w5.cell? ⟨w.heap.size + 1, 0, none⟩ = some (.string ⟨#[]⟩) := by
      rw [← hw5, World.cell?_setCell_other _ _ _ _ ne12.symm]
      refine World.cell?_setCell_same _ _ _ (u := .string ⟨#[]⟩) ?_
      rw [World.cell?_setCell_other _ _ _ _ ne01, World.cell?_setCell_other _ _ _ _ ne01]
      exact hcw4
    have c2 : w5.cell? ⟨w.heap.size + 1 + 1, 0, none⟩ = some (.bool true) := by
      rw [← hw5]
      refine World.cell?_setCell_same _ _ _ (u := .bool false) ?_
      rw [World.cell?_setCell_other _ _ _ _ ne12, World.cell?_setCell_other _ _ _ _ ne02, World.cell?_setCell_other _ _ _ _ ne02]
      exact hco4
    refine leaves_cons (f := 23) (args := #[.pointer (some ⟨w.heap.size + 1 + 1, 0, none⟩), .pointer (some ⟨w.heap.size, 0, none⟩), .pointer (some ⟨w.heap.size + 1, 0, none⟩)]) (by simp) (by simp [go_sem]) ?_
    refine (g1_returning _ _ _ w5 c2).mono ?_
    rintro e u' w6 ⟨rfl, rfl, rfl⟩
    exact ⟨.tuple #[.int .i64 n, .string ⟨#[]⟩, .bool true], by simp [results, Tryd.results8, go_sem, c0, c1, c2], (n, ⟨#[]⟩, true), w4, rfl, ho, hold5, hsz, hkeep⟩
  · have hcn4 := hold4.cell np0 hcn
    have hcw4 := hold4.cell np1 hcw
    have hco4 := hold4.cell np2 hco
    have hzn4 := hold4.frozen np0 hcn hzn
    have hzw4 := hold4.frozen np1 hcw hzw
    refine leaves_cons (f := 23) (args := #[.pointer (some ⟨w.heap.size + 1 + 1, 0, none⟩), .pointer (some ⟨w.heap.size, 0, none⟩), .pointer (some ⟨w.heap.size + 1, 0, none⟩)]) (by simp) (by simp [go_sem]) ?_
    refine (g1_panicking _ _ _ ne01 _ _ s v older w4 hco4 hcn4 hcw4 hzn4 hzw4 S hS4 hs).mono ?_
    rintro e u' w6 ⟨rfl, rfl, w5, hold5, rfl⟩
    have hcn5 := hold5.cell hcn4
    have hcw5 := hold5.cell hcw4
    have hco5 := hold5.cell hco4
    have hsz : w4.heap.size ≤ ((w5.setCell ⟨w.heap.size, 0, none⟩ (.int .i64 0)).setCell ⟨w.heap.size + 1, 0, none⟩ (.string s)).heap.size := by simp; exact hold5.size
    have h45 : w.heap.size ≤ w4.heap.size := hold34.size
    have hkeep : ∀ b, b < w4.heap.size → (b < w.heap.size ∨ w.heap.size + 3 ≤ b) → ((w5.setCell ⟨w.heap.size, 0, none⟩ (.int .i64 0)).setCell ⟨w.heap.size + 1, 0, none⟩ (.string s)).heap[b]? = w4.heap[b]? := fun b hb4 hb => by
      rw [heap_setCell_other _ _ b _ (by show b ≠ w.heap.size + 1; omega), heap_setCell_other _ _ b _ (by show b ≠ w.heap.size; omega)]
      exact hold5.block b hb4
    have hold6 : OldX p w ((w5.setCell ⟨w.heap.size, 0, none⟩ (.int .i64 0)).setCell ⟨w.heap.size + 1, 0, none⟩ (.string s)) :=
      ((hold34.trans (OldX.of hold5)).set (Nat.le_refl _) _).set (Nat.le_succ _) _
    generalize hw6 : (w5.setCell ⟨w.heap.size, 0, none⟩ (.int .i64 0)).setCell ⟨w.heap.size + 1, 0, none⟩ (.string s) = w6 at hold6 hsz hkeep
    have c0 : w6.cell? ⟨w.heap.size, 0, none⟩ = some (.int .i64 0) := by
      rw [← hw6, World.cell?_setCell_other _ _ _ _ ne01.symm]
      exact World.cell?_setCell_same _ _ _ hcn5
    have c1 : w6.cell? ⟨w.heap.size + 1, 0, none⟩ = some (.string s) := by
      rw [← hw6]
      refine World.cell?_setCell_same _ _ _ (u := .string ⟨#[]⟩) ?_
      rw [World.cell?_setCell_other _ _ _ _ ne01]
      exact hcw5
    have c2 : w6.cell? ⟨w.heap.size + 1 + 1, 0, none⟩ = some (.bool false) := by
      rw [← hw6, World.cell?_setCell_other _ _ _ _ ne12, World.cell?_setCell_other _ _ _ _ ne02]
      exact hco5
    simp only [settle, hol]
    exact ⟨.tuple #[.int .i64 0, .string s, .bool false], by simp [results, Tryd.results8, go_sem, c0, c1, c2], (0, s, false), w4, rfl, ho, hold6, hsz, hkeep⟩
end Go.Proofs.YtjlkekebhgjlcaaDoor
