/- law29: the law Guards says true. -/
import Derived.Test.YtjlkekebhgjlcaaDoorFk
namespace Go.Proofs.YtjlkekebhgjlcaaDoor
open Go Go.Vc
set_option maxRecDepth 100000

def guardE (k : Int) (s : ByteArray) (n : Int) (e : Ending) : Prop :=
  if k % 6 = 1 then e = .panicked [{ v := .iface 9 (.string s), recovered := false }]
  else if k % 6 = 2 then e = .panicked [{ v := .iface 25 (.agg #[.string s]), recovered := false }]
  else if k % 6 = 3 then e = .panicked [{ v := .iface 2 (.int .i64 n), recovered := false }]
  else if k % 6 = 4 then e = .panicked [{ v := .iface 3 (.int .i64 n), recovered := false }]
  else if k % 6 = 5 then ∃ p c, e = .panicked [{ v := .iface 26 (.slice p 1 c), recovered := false }]
  else e = .returned (.int .i64 n)
def guardR (k : Int) (s : ByteArray) (n : Int) : Int × ByteArray × Bool :=
  if k % 6 = 1 then (0, s, false) else if k % 6 = 2 then (0, wrongOf s, false) else if k % 6 = 3 then (0, dec n, false) else if k % 6 = 4 then (0, dec n, false) else if k % 6 = 5 then (0, ⟨#[63]⟩, false) else (n, ByteArray.empty, true)

theorem heap_setCell_cong {w w' : World} {i : Nat} (h : w'.heap[i]? = w.heap[i]?) (a : Addr) (v : Value) : (w'.setCell a v).heap[i]? = (w.setCell a v).heap[i]? := by
  simp only [World.setCell, Array.getElem?_modify, h]
theorem guards1_walk (w : World) (bd bk bs bn : Nat) (d k : Int) (s : ByteArray) (n : Int) (hk : 0 ≤ k) (hd : d = 0) (h12 : bd ≠ bk) (h13 : bd ≠ bs) (h14 : bd ≠ bn)
    (c0 : w.cell? ⟨bd, 0, none⟩ = some (.int .i64 d)) (z0 : w.frozen? ⟨bd, 0, none⟩ = false) (c1 : w.cell? ⟨bk, 0, none⟩ = some (.int .u8 k)) (c2 : w.cell? ⟨bs, 0, none⟩ = some (.string s)) (c3 : w.cell? ⟨bn, 0, none⟩ = some (.int .i64 n)) :
    Calls Tryd.prog 9 #[.pointer (some ⟨bd, 0, none⟩), .pointer (some ⟨bk, 0, none⟩), .pointer (some ⟨bs, 0, none⟩), .pointer (some ⟨bn, 0, none⟩)] w fun e w' => Old (w.setCell ⟨bd, 0, none⟩ (.int .i64 1)) w' ∧ guardE k s n e := by
  have hm : k.tmod 6 = k % 6 := Int.tmod_eq_emod_of_nonneg hk
  have n1 : (⟨bd, 0, none⟩ : Addr) ≠ ⟨bk, 0, none⟩ := fun e => h12 (congrArg Addr.block e)
  have n2 : (⟨bd, 0, none⟩ : Addr) ≠ ⟨bs, 0, none⟩ := fun e => h13 (congrArg Addr.block e)
  have n3 : (⟨bd, 0, none⟩ : Addr) ≠ ⟨bn, 0, none⟩ := fun e => h14 (congrArg Addr.block e)
  subst hd
  have c1' : (w.setCell ⟨bd, 0, none⟩ (.int .i64 1)).cell? ⟨bk, 0, none⟩ = some (.int .u8 k) := by rw [World.cell?_setCell_other _ _ _ _ n1]; exact c1
  have c2' : (w.setCell ⟨bd, 0, none⟩ (.int .i64 1)).cell? ⟨bs, 0, none⟩ = some (.string s) := by rw [World.cell?_setCell_other _ _ _ _ n2]; exact c2
  have c3' : (w.setCell ⟨bd, 0, none⟩ (.int .i64 1)).cell? ⟨bn, 0, none⟩ = some (.int .i64 n) := by rw [World.cell?_setCell_other _ _ _ _ n3]; exact c3
  by_cases e1 : k % 6 = 1
  · simp only [guardE, if_pos e1]
    go_enter Tryd.func9, Tryd.ntmps9
    go_wp2
    exact ⟨rfl, Old.refl _, rfl⟩
  by_cases e2 : k % 6 = 2
  · simp only [guardE, if_neg e1, if_pos e2]
    go_enter Tryd.func9, Tryd.ntmps9
    go_wp2
    exact ⟨rfl, Old.refl _, rfl⟩
  by_cases e3 : k % 6 = 3
  · simp only [guardE, if_neg e1, if_neg e2, if_pos e3]
    go_enter Tryd.func9, Tryd.ntmps9
    go_wp2
    exact ⟨rfl, Old.refl _, rfl⟩
  by_cases e4 : k % 6 = 4
  · simp only [guardE, if_neg e1, if_neg e2, if_neg e3, if_pos e4]
    go_enter Tryd.func9, Tryd.ntmps9
    go_wp2
    exact ⟨rfl, Old.refl _, rfl⟩
  by_cases e5 : k % 6 = 5
  · simp only [guardE, if_neg e1, if_neg e2, if_neg e3, if_neg e4, if_pos e5]
    go_enter Tryd.func9, Tryd.ntmps9
    go_wp2
    exact ⟨rfl, Old.alloc _ _, _, _, rfl⟩
  simp only [guardE, if_neg e1, if_neg e2, if_neg e3, if_neg e4, if_neg e5]
  go_enter Tryd.func9, Tryd.ntmps9
  go_wp2
  go_ret
  exact ⟨Old.refl _, rfl⟩

/-- Guard over that closure: what it answers, and that it ran once. -/
theorem guards_walk (S : Store) (hT : Tab S) (w : World) (bd bk bs bn : Nat) (k : Int) (s : ByteArray) (n : Int) (hk : 0 ≤ k) (hs : s.size ≤ 1000000000000000) (hn : inI64 n) (h12 : bd ≠ bk) (h13 : bd ≠ bs) (h14 : bd ≠ bn)
    (c0 : w.cell? ⟨bd, 0, none⟩ = some (.int .i64 0)) (z0 : w.frozen? ⟨bd, 0, none⟩ = false) (c1 : w.cell? ⟨bk, 0, none⟩ = some (.int .u8 k)) (c2 : w.cell? ⟨bs, 0, none⟩ = some (.string s)) (c3 : w.cell? ⟨bn, 0, none⟩ = some (.int .i64 n))
    (hS : S.le (Store.of (w.setCell ⟨bd, 0, none⟩ (.int .i64 1)))) :
    Calls Tryd.prog 8 #[.func (.func 9) #[] #[.pointer (some ⟨bd, 0, none⟩), .pointer (some ⟨bk, 0, none⟩), .pointer (some ⟨bs, 0, none⟩), .pointer (some ⟨bn, 0, none⟩)]] w fun e w' =>
      e = .returned (.tuple #[.int .i64 (guardR k s n).1, .string (guardR k s n).2.1, .bool (guardR k s n).2.2]) ∧ Old (w.setCell ⟨bd, 0, none⟩ (.int .i64 1)) w' := by
  have hbd : bd < w.heap.size := World.block_lt_of_cell? w ⟨bd, 0, none⟩ c0
  refine (guard_core (fun b => b = bd) w (fun b hb => by rw [hb]; exact hbd) 9 [_, _, _, _] (fun e w4 => Old (w.setCell ⟨bd, 0, none⟩ (.int .i64 1)) w4 ∧ guardE k s n e) (fun x w4 => x = guardR k s n ∧ Old (w.setCell ⟨bd, 0, none⟩ (.int .i64 1)) w4) (enters_of Tryd.func9 (by kernel_rfl) rfl) (fun w3 hold => ?_) (fun e w4 he => ?_)).mono ?_
  · refine (guards1_walk w3 bd bk bs bn 0 k s n hk rfl h12 h13 h14 (hold.cell c0) (hold.frozen c0 z0) (hold.cell c1) (hold.cell c2) (hold.cell c3)).mono ?_
    rintro e w4 ⟨h, he⟩
    have hx : OldX (fun b => b = bd) w3 w4 := by
      refine ⟨h.os, h.tape, h.output, by have := h.size; rwa [World.size_setCell] at this, fun i hi hp => ?_⟩
      rw [h.block i (by rw [World.size_setCell]; exact hi), heap_setCell_other _ _ i _ hp]
    refine ⟨hx, ?_, he⟩
    refine ⟨h.os.trans hold.os, h.tape.trans hold.tape, h.output.trans hold.output, by rw [World.size_setCell]; exact Nat.le_trans hold.size hx.size, fun i hi => ?_⟩
    rw [World.size_setCell] at hi
    rw [h.block i (by rw [World.size_setCell]; exact Nat.lt_of_lt_of_le hi hold.size)]
    exact heap_setCell_cong (hold.block i hi) _ _
  · obtain ⟨hold, he⟩ := he
    have hS4 := old_le hS hold
    unfold guardE at he
    unfold guardR
    split at he
    · rename_i e1; rw [if_pos e1]; exact .inr ⟨_, s, [], S, he, rfl, hS4, said_string S s, rfl, hold⟩
    rename_i e1
    rw [if_neg e1]
    split at he
    · rename_i e2; rw [if_pos e2]; exact .inr ⟨_, wrongOf s, [], S, he, rfl, hS4, said_wrong S s hs, rfl, hold⟩
    rename_i e2
    rw [if_neg e2]
    split at he
    · rename_i e3; rw [if_pos e3]; exact .inr ⟨_, dec n, [], S, he, rfl, hS4, said_int64 S hT n hn, rfl, hold⟩
    rename_i e3
    rw [if_neg e3]
    split at he
    · rename_i e4; rw [if_pos e4]; exact .inr ⟨_, dec n, [], S, he, rfl, hS4, said_int S hT n hn, rfl, hold⟩
    rename_i e4
    rw [if_neg e4]
    split at he
    · rename_i e5; rw [if_pos e5]; obtain ⟨p, c, he⟩ := he; exact .inr ⟨_, ⟨#[63]⟩, [], S, he, rfl, hS4, said_other S p 1 c, rfl, hold⟩
    rename_i e5
    rw [if_neg e5]
    exact .inl ⟨n, he, rfl, hold⟩
  · rintro e w' ⟨x, w4, rfl, ⟨rfl, hold⟩, hx, hsz, hkeep⟩
    refine ⟨rfl, hx.os, hx.tape, hx.output, by rw [World.size_setCell]; exact hx.size, fun i hi => ?_⟩
    rw [World.size_setCell] at hi
    rw [hkeep i hi, hold.block i (by rw [World.size_setCell]; exact hi)]

/-- A box of one known cell. -/
theorem box_one {ρ : List Value} {h x : Value} {w : World} (hb : Res.holds ρ h w (.box [.v x])) : ∃ b T, h = .pointer (some ⟨b, 0, none⟩) ∧ w.heap[b]? = some (.cells #[x] T (0, 0)) := by
  obtain ⟨b, T, xs, rfl, h1, h2⟩ := hb
  match xs, h2 with
  | ⟨[y]⟩, ⟨⟨hy, _⟩, _⟩ => subst hy; exact ⟨b, T, rfl, h1⟩
theorem one_cell {w : World} {b : Nat} {x : Value} {T : TypeId} (h : w.heap[b]? = some (.cells #[x] T (0, 0))) : w.cell? ⟨b, 0, none⟩ = some x ∧ w.frozen? ⟨b, 0, none⟩ = false := by
  constructor
  · simp [World.cell?, h]
  · simp [World.frozen?, h]

set_option maxHeartbeats 1000000 in
theorem guards_spec (S : Store) (hT : Tab S) (k : Int) (s : ByteArray) (n : Int) (hk : 0 ≤ k) (hs : s.size ≤ 1000000000000000) (hn : inI64 n) :
    SpecR Tryd.prog 8 S [.box [.v (.int .i64 0)], .box [.v (.int .u8 k)], .box [.v (.string s)], .box [.v (.int .i64 n)]] [.c (.clo 9 [.inl 0, .inl 1, .inl 2, .inl 3])] (A := Unit) (fun _ => gOut (guardR k s n))
      (fun _ => [.box [.v (.int .i64 1)], .box [.v (.int .u8 k)], .box [.v (.string s)], .box [.v (.int .i64 n)]]) (fun _ _ => True) := by
  intro w ρ vs hst hargs
  obtain ⟨h0, r0, x0⟩ := hst.res 0 _ rfl
  obtain ⟨h1, r1, x1⟩ := hst.res 1 _ rfl
  obtain ⟨h2, r2, x2⟩ := hst.res 2 _ rfl
  obtain ⟨h3, r3, x3⟩ := hst.res 3 _ rfl
  obtain ⟨b0, T0, rfl, k0⟩ := box_one x0
  obtain ⟨b1, T1, rfl, k1⟩ := box_one x1
  obtain ⟨b2, T2, rfl, k2⟩ := box_one x2
  obtain ⟨b3, T3, rfl, k3⟩ := box_one x3
  have n1 : b0 ≠ b1 := fun e => by have := hst.disj 0 1 _ _ _ _ b0 rfl rfl rfl rfl r0 r1 rfl (by rw [e]; rfl); cases this
  have n2 : b0 ≠ b2 := fun e => by have := hst.disj 0 2 _ _ _ _ b0 rfl rfl rfl rfl r0 r2 rfl (by rw [e]; rfl); cases this
  have n3 : b0 ≠ b3 := fun e => by have := hst.disj 0 3 _ _ _ _ b0 rfl rfl rfl rfl r0 r3 rfl (by rw [e]; rfl); cases this
  obtain ⟨o1, -, o3, o4⟩ := hst.own 0 _ _ b0 rfl rfl r0 rfl
  match vs, hargs with
  | [v], ⟨hv, _⟩ =>
  obtain ⟨ys, rfl, hlen, hcap⟩ := hv
  match ys, hlen with
  | [y0, y1, y2, y3], _ =>
  obtain ⟨c0, g0, rfl⟩ := hcap 0 _ _ rfl rfl
  obtain ⟨c1, g1, rfl⟩ := hcap 1 _ _ rfl rfl
  obtain ⟨c2, g2, rfl⟩ := hcap 2 _ _ rfl rfl
  obtain ⟨c3, g3, rfl⟩ := hcap 3 _ _ rfl rfl
  obtain rfl : b0 = c0 := by have := r0.symm.trans g0; simpa using this
  obtain rfl : b1 = c1 := by have := r1.symm.trans g1; simpa using this
  obtain rfl : b2 = c2 := by have := r2.symm.trans g2; simpa using this
  obtain rfl : b3 = c3 := by have := r3.symm.trans g3; simpa using this
  have hS : S.le (Store.of (w.setCell ⟨b0, 0, none⟩ (.int .i64 1))) := Store.le_of hst.sub fun b hb => by
    refine heap_setCell_other w _ b _ fun e => ?_
    simp only at e
    subst e
    rcases hb with ⟨o, x, hx⟩ | ⟨x, hx⟩
    · rw [o3 o] at hx; cases hx
    · rw [o4] at hx; cases hx
  refine (guards_walk S hT w b0 b1 b2 b3 k s n hk hs hn n1 n2 n3 (one_cell k0).1 (one_cell k0).2 (one_cell k1).1 (one_cell k2).1 (one_cell k3).1 hS).mono ?_
  rintro e w' ⟨rfl, hold⟩
  have hw := hst.write (w' := w.setCell ⟨b0, 0, none⟩ (.int .i64 1)) (y := .box [.v (.int .i64 1)]) (i := 0) (b := b0) rfl rfl r0 rfl (fun c hc => hc)
    (fun c hc => heap_setCell_other w _ c _ hc) (by simp) rfl rfl rfl ⟨b0, T0, #[.int .i64 1], rfl, one_setCell k0, ⟨rfl, rfl⟩, trivial⟩
  exact ⟨_, (), S, ρ, rfl, ⟨[_, _, _], rfl, ⟨rfl, rfl⟩, ⟨rfl, rfl⟩, ⟨rfl, rfl⟩, trivial⟩, rfl, hw.call hold (old_le hS hold) (fun _ _ => ⟨fun _ => rfl, rfl⟩), Store.le_refl _, fun _ _ _ => ⟨fun _ => rfl, rfl⟩, trivial⟩

theorem guard_text (k : Int) (s : ByteArray) (n : Int) : [(⟨#[]⟩ : ByteArray), s, ⟨#[119, 114, 111, 110, 103, 58, 32]⟩ ++ s, dec n, dec n, ⟨#[63]⟩][(k % 6).toNat]? = some (guardR k s n).2.1 := by
  have : k % 6 = 0 ∨ k % 6 = 1 ∨ k % 6 = 2 ∨ k % 6 = 3 ∨ k % 6 = 4 ∨ k % 6 = 5 := by omega
  unfold guardR
  rcases this with e | e | e | e | e | e <;> rw [e] <;> rfl
set_option maxHeartbeats 1000000 in
theorem law_guards (S : Store) (hT : Tab S) (k : Int) (hk : 0 ≤ k) (s : ByteArray) (hs : s.size ≤ 1000000000000000) (n : Int) (hn : inI64 n) :
    Pure Tryd.prog 3 S [.int .u8 k, .string s, .int .i64 n] rB (fun _ x => x = true) := by
  refine pure_vc agrees Tryd.func3 rfl rfl (fun S S' q hle h => h) ?_
  refine ⟨⟨_, rfl, rfl, rfl⟩, .inr (.inl ⟨[3, 0, 1, 2], _, _, _, _, rfl, guards_spec S hT k s n hk hs hn, fun S1 _ hS1 _ => ?_⟩)⟩
  refine ⟨or3_3, [], oF3_3, by kernel_rfl, ?_⟩
  have hmod : k.tmod 6 = k % 6 := Int.tmod_eq_emod_of_nonneg hk
  refine ⟨by show 7 + s.size ≤ _; omega, by decide, k % 6, hmod, ⟨_, rfl, rfl, rfl⟩, .inl ⟨_, _, _, digits_spec S1 n hn, fun S2 _ hS2 _ => ?_⟩⟩
  refine ⟨⟨_, rfl, rfl, rfl⟩, .inl ⟨_, _, _, digits_spec S2 n hn, fun S3 _ hS3 _ => ?_⟩⟩
  refine ⟨by omega, by show k % 6 < 6; omega, (guardR k s n).2.1, guard_text k s n, by decide, k % 6, hmod, And.intro (fun h => ?_) (fun h => ?_)⟩
  · have h0 : k % 6 = 0 := by simpa using h
    have hR : guardR k s n = (n, ByteArray.empty, true) := by unfold guardR; rw [if_neg (by omega), if_neg (by omega), if_neg (by omega), if_neg (by omega), if_neg (by omega)]
    refine ⟨⟨_, rfl, rfl, rfl⟩, .inl ⟨_, _, _, awake_spec S3 (hT.le (Store.le_trans hS1 (Store.le_trans hS2 hS3))), fun S4 y hS4 hy => ?_⟩⟩
    obtain rfl : y = true := hy
    refine onT (onE rfl (onE (by rw [hR]) (onE (by rw [hR]; exact beq_self_eq_true _) ⟨rfl, _, rfl, ?_⟩)))
    rw [hR, streq]
    exact decide_eq_true rfl
  · have h0 : ¬ k % 6 = 0 := by simpa using h
    have hR : (guardR k s n).1 = 0 ∧ (guardR k s n).2.2 = false := by
      have : k % 6 = 1 ∨ k % 6 = 2 ∨ k % 6 = 3 ∨ k % 6 = 4 ∨ k % 6 = 5 := by omega
      unfold guardR
      rcases this with e | e | e | e | e <;> rw [e] <;> exact ⟨rfl, rfl⟩
    refine ⟨⟨_, rfl, rfl, rfl⟩, .inl ⟨_, _, _, awake_spec S3 (hT.le (Store.le_trans hS1 (Store.le_trans hS2 hS3))), fun S4 y hS4 hy => ?_⟩⟩
    obtain rfl : y = true := hy
    refine onT (onE rfl (onE (by rw [hR.2]; rfl) (onE (by rw [hR.1]; rfl) ⟨rfl, _, rfl, ?_⟩)))
    rw [streq]
    exact decide_eq_true rfl
end Go.Proofs.YtjlkekebhgjlcaaDoor
