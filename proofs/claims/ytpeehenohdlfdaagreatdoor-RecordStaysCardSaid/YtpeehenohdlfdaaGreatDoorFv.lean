/- law57: slices.AppendSeq over maps.Values. -/
import Derived.Test.YtpeehenohdlfdaaGreatDoorFu
import Derived.RangeFuncFrom
import Derived.Maps.OwnIn
namespace Go.Proofs.YtpeehenohdlfdaaGreatDoor
open Go Go.Proofs Go.Vc Go.RowKit Go.Maps Go.Sort Go.Shelf
set_option maxRecDepth 100000

/-- What a call leaves but for one block. -/
structure But1 (q : Option Nat) (w w' : World) : Prop where
  os : w'.os = w.os
  tape : w'.tape = w.tape
  output : w'.output = w.output
  size : w.heap.size ≤ w'.heap.size
  block : ∀ k, k < w.heap.size → some k ≠ q → w'.heap[k]? = w.heap[k]?
theorem But1.refl (q : Option Nat) (w : World) : But1 q w w := ⟨rfl, rfl, rfl, Nat.le_refl _, fun _ _ _ => rfl⟩
theorem But1.grown {q row : Option Nat} {w a b : World} (h : But1 q w a) (hg : a.grownBy b row) (hr : ∀ k, row = some k → some k = q ∨ w.heap.size ≤ k) : But1 q w b :=
  ⟨hg.os.trans h.os, hg.tape.trans h.tape, hg.output.trans h.output, Nat.le_trans h.size hg.size, fun k hk hq => (hg.block k (Nat.lt_of_lt_of_le hk h.size) (fun e => by
    rcases hr k e.symm with q' | q'
    · exact hq q'
    · omega)).trans (h.block k hk hq)⟩
abbrev encI (xs : List Int) : List Value := xs.map (Value.int .i64)
/-- Between two rounds. -/
structure ApI (w : World) (q : Option Nat) (out : List Int) (pre : List Int) (W : World) : Prop where
  box : ∃ v, W.heap[w.heap.size]? = some (.cells #[v] 33 (0, 0)) ∧ W.ownsRow 0 3 1 v (out.length + pre.length) (encI (out ++ pre)) ∧ ∀ k, v.ownBlock = some k → some k = q ∨ w.heap.size ≤ k
  but : But1 q w W
theorem ap_own (w : World) (q : Option Nat) (out : List Int) : OwnFrom (w.heap.size + 1) (ApI w q out) := by
  rintro pre W W' row ⟨⟨v, hv, hr, hk⟩, hb⟩ hg hrow
  refine ⟨⟨v, (grownBy_keeps_cells hg (fun r e => (hrow r e).2) hv rfl).trans hv, hr.kept hg ?_, hk⟩, hb.grown hg (fun k e => .inr (by have := (hrow k e).1; omega))⟩
  rcases hr.2 with ⟨rfl, _⟩ | ⟨g, cap, cur, rfl, _, hgb, _⟩
  · exact .inl rfl
  · refine .inr fun e' => ?_
    obtain ⟨_, o, ho, hw⟩ := hrow g (by simpa [Value.ownBlock] using e'.symm)
    rw [hgb] at ho; cases ho; cases hw
theorem info3 : (Tryz.prog.info? 3).map (fun i => (i.zero, i.size, i.bytes)) = some (some (.int .i64 0), 1, 8) := by kernel_rfl
set_option maxHeartbeats 4000000 in
theorem appendSeq_calls (w : World) (p0 : Option Addr) (n0 c0 : Nat) (out : List Int) (hrow0 : w.ownsRow 0 3 1 (.slice p0 n0 c0) out.length (encI out)) (mb Bm : Nat) (m : List (Int × Int)) (ents : Array MapEntry) (clock : Nat) (hBm : w.cell? ⟨Bm, 0, none⟩ = some (.map (some mb))) (hm : w.heap[mb]? = some (.map ents clock)) (hmap : mapIs shI shI ents clock m)
    (hN : out.length + m.length ≤ 1000000) :
    CallsIn Fence.wide 5 Tryz.prog 28 #[.slice p0 n0 c0, .func (.func 53) #[] #[.pointer (some ⟨Bm, 0, none⟩)]] w fun e w' => ∃ (v : Value) (vs : List Int), e = .returned v ∧ vs.Perm (m.map (·.2)) ∧ w'.ownsRow 0 3 1 v (out ++ vs).length (encI (out ++ vs)) ∧ (∀ k, v.ownBlock = some k → some k = (Value.slice p0 n0 c0).ownBlock ∨ w.heap.size ≤ k) ∧ But1 (Value.slice p0 n0 c0).ownBlock w w' := by
  refine callsIn_of_wp_marks Tryz.func28 rfl trivial ?_ rfl
  simp only [Tryz.ntmps28, List.size_toArray, List.length_cons, List.length_nil, Nat.reduceAdd, Nat.reduceSub, Array.replicate_succ, Array.replicate_zero, List.push_toArray, List.append_toArray, List.nil_append, List.cons_append]
  have hml := (Array.getElem?_eq_some_iff.1 hm).1
  have hBl := World.block_lt_of_cell? w ⟨Bm, 0, none⟩ hBm
  have hBl : Bm < w.heap.size := hBl
  gi_wp2
  obtain ⟨W0, hW0⟩ : ∃ W0, w.alloc (.cells #[.slice p0 n0 c0] 33) = W0 := ⟨_, rfl⟩
  have hs0 : W0.heap.size = w.heap.size + 1 := by rw [← hW0]; simp
  have hv0 : W0.heap[w.heap.size]? = some (.cells #[.slice p0 n0 c0] 33 (0, 0)) := by rw [← hW0]; exact World.alloc_heap_new w _
  have hg0 : w.grownBy W0 none := by rw [← hW0]; exact World.grownBy_alloc w _ none
  have hBm0 : W0.cell? ⟨Bm, 0, none⟩ = some (.map (some mb)) := (World.cell?_of_block (hg0.block Bm hBl (by simp))).trans hBm
  have hm0 : W0.heap[mb]? = some (.map ents clock) := (hg0.block mb hml (by simp)).trans hm
  have hrow1 : W0.ownsRow 0 3 1 (.slice p0 n0 c0) out.length (encI out) := hrow0.kept hg0 (by
    cases p0 with
    | none => exact .inl rfl
    | some a => exact .inr (fun e => by cases e))
  rw [hW0]
  refine wpIn_rangeFunc_ownF rfl (by omega) (gf := 53) (lb := #[.pointer (some ⟨Bm, 0, none⟩)]) rfl trivial (enters_of Tryz.func53 (by kernel_rfl) rfl) (encs := fun x => #[.int .i64 x]) (Kp := KeepsWalks)
    (values_stops 4 (by omega) Bm mb m ents clock W0 hBm0 hm0 hmap) (fun h k => h.trans k) (fun W l o o' _ hl hc hw => KeepsWalks.putObj _ hl hw) (Below.refl _ _) (fun _ => rfl)
    (ApI w (Value.slice p0 n0 c0).ownBlock out) (fun _ _ _ => False) ?own (fun _ _ _ _ _ h _ _ => h) ?start
    (fun x => { tmps := #[.slice p0 n0 c0, .func (.func 53) #[] #[.pointer (some ⟨Bm, 0, none⟩)], .pointer (some ⟨w.heap.size, 0, none⟩), undef, .slice none 0 0, .int .i64 x, .func (.func 53) #[] #[.pointer (some ⟨Bm, 0, none⟩)], .int .i64 x, undef, undef, undef, undef, undef], defers := [] }) ?assign ?body ?done ?stop
  case own => rw [hs0]; exact ap_own w _ out
  case start =>
    refine ⟨⟨.slice p0 n0 c0, hv0, ?_, fun k hk => .inl hk.symm⟩, (But1.refl _ w).grown hg0 (fun k e => by cases e)⟩
    simpa using hrow1
  case stop => intro D c pre W _ _ h _; exact h.elim
  case assign =>
    intro l x W K hK
    gi_wp2_with gi_round_op_a
    exact hK
  case body =>
    rintro l pre x W ⟨⟨v, hv, hrow, hk⟩, hb⟩ hlen
    obtain ⟨i0, hi, hz0, hz1, hz2⟩ := info_parts info3
    obtain ⟨hc2, hf2⟩ := cell_of_box_a hv
    have hBlt : w.heap.size < W.heap.size := (Array.getElem?_eq_some_iff.1 hv).1
    have hvb : some w.heap.size ≠ v.ownBlock := by
      rcases ownsRow_ne_a hrow hv (fun cur e => by cases e) with e | e
      · rw [e]; simp
      · exact fun e' => e e'.symm
    gi_wp2_with (first
      | (gi_at_builtin; refine wpListIn_append_own_at _ rfl _ _ 33 rfl 0 3 i0 (.int .i64 0) 1 8 Tryz.underlying33 hi hz0 hz1 hz2 rfl (by decide) _ _ _ rfl (hrow.alloc _) ⟨W.heap.size, 0, none⟩ 1 1 [.int .i64 x] rfl rfl (cell_one_new _ _ _) (by simp [Value.oneCell']) (by simp [maxLen]; omega) (by omega) (Nat.zero_le _) ?_; intro v' w3 hown' hg3 hnil3 hat3
         have hv3 : w3.heap[w.heap.size]? = some (.cells #[v] 33 (0, 0)) := (hg3.block w.heap.size (by simp; omega) hvb).trans ((Below.heap_alloc _ _ _ hBlt).trans hv)
         obtain ⟨hc3, hf3⟩ := cell_of_box_a hv3
         obtain ⟨g', cap', cur', rfl, hgb', hr1, hr2, hr3, hr4⟩ : ∃ g' cap' cur', v' = .slice (some ⟨g', 0, none⟩) (out.length + pre.length + 1) cap' ∧ w3.heap[g']? = some (.cells cur' 3 (0, 0)) ∧ out.length + pre.length + 1 ≤ cap' ∧ cap' ≤ maxLen ∧ cur'.size = cap' * 1 ∧ cur'.toList.take ((out.length + pre.length + 1) * 1) = encI (out ++ pre) ++ [.int .i64 x] := by
           rcases hown'.2 with ⟨_, h0⟩ | ⟨g', cap', cur', h1, _, h2⟩
           · exact absurd h0 (by omega)
           · exact ⟨g', cap', cur', h1, h2⟩
         go_frame)
      | gi_round_op_a)
    have hg3' : (W.alloc (.cells #[.int .i64 x] 3)).grownBy w3 v.ownBlock := hg3
    obtain ⟨w4, hw4⟩ : ∃ w4, w3.setCell ⟨w.heap.size, 0, none⟩ (.slice (some ⟨g', 0, none⟩) (out.length + pre.length + 1) cap') = w4 := ⟨_, rfl⟩
    rw [hw4]
    have hg4 : w3.grownBy w4 (some w.heap.size) := by rw [← hw4]; exact grownBy_setCell0_a _ _ _
    have hv4 : w4.heap[w.heap.size]? = some (.cells #[.slice (some ⟨g', 0, none⟩) (out.length + pre.length + 1) cap'] 33 (0, 0)) := by rw [← hw4]; exact heap_setCell_box_a _ hv3
    have hga := World.grownBy_alloc W (.cells #[.int .i64 x] 3) none
    have hko : KeepsOthers W w4 := ((KeepsOthers.alloc W _).trans (KeepsOthers.of_grownBy hg3' (fun j o hj ho => by
      rcases (hrow.alloc (.cells #[.int .i64 x] 3)).2 with ⟨rfl, _⟩ | ⟨g, cap, cur, rfl, _, hgb, _⟩
      · cases hj
      · have : g = j := by simpa [Value.ownBlock] using hj
        subst this; rw [hgb] at ho; cases ho; rfl))).trans (by rw [← hw4]; exact KeepsOthers.setCell _ _ _)
    have hsz4 : W.heap.size ≤ w4.heap.size := hko.size
    have hk' : ∀ k, (Value.slice (some ⟨g', 0, none⟩) (out.length + pre.length + 1) cap').ownBlock = some k → some k = (Value.slice p0 n0 c0).ownBlock ∨ w.heap.size ≤ k := by
      intro k hkk
      rcases hat3 with e | e
      · exact hk k (e ▸ hkk)
      · right
        rw [e] at hkk
        simp at hkk
        omega
    refine ⟨hko, hko.walks, ⟨_, hv4, ?_, hk'⟩, ?_⟩
    · have h4 := hown'.kept hg4 (ownsRow_ne_a hown' hv3 (fun cur e => by cases e))
      have e1 : out.length + (pre ++ [x]).length = out.length + pre.length + 1 := by simp; omega
      have e2 : encI (out ++ (pre ++ [x])) = encI (out ++ pre) ++ [.int .i64 x] := by simp [encI]
      rw [e1, e2]
      exact h4
    · refine ((hb.grown hga (fun k e => by cases e)).grown hg3' hk).grown hg4 (fun k e => .inr (by cases e; exact Nat.le_refl _))
  case done =>
    rintro D vs W hD hperm ⟨⟨v, hv, hrow, hk⟩, hb⟩ hK
    obtain ⟨hc2, hf2⟩ := cell_of_box_a hv
    gi_wp2
    refine ⟨by simp, .inl ⟨_, _, rfl, run_takeDeferred hK, ?_⟩⟩
    have hgD := grownBy_putObj_a W D (.deferred none)
    refine ⟨_, results_tmp rfl _ _ _, v, vs, rfl, hperm, ?_, hk, hb.grown hgD (fun k e => .inr (by cases e; omega))⟩
    rw [List.length_append]
    exact hrow.kept hgD (ownsRow_ne_a hrow hK (fun cur e => by cases e))
theorem encs_int (xs : List Int) : shI.encs xs = encI xs := by
  induction xs with
  | nil => rfl
  | cons x xs ih => show Value.int .i64 x :: shI.encs xs = _; rw [ih]; rfl
theorem appendSeq_spec (S : Store) (out : List Int) (mb Bm : Nat) (m : List (Int × Int)) (hB : S.rd Bm 0 [.map (some mb)]) (hN : out.length + m.length ≤ 1000000) :
    SpecR Tryz.prog 28 S [.ext (MapN shI shI mb m), .row shI 3 out] [.c (.ref 1), .c (.v (.func (.func 53) #[] #[ptrV Bm]))] (A := List Int) (fun _ => .c (.ref 1)) (fun vs => [.ext (MapN shI shI mb m), .row shI 3 (out ++ vs)]) (fun _ vs => vs.Perm (m.map (·.2))) := by
  intro w ρ vs hst hargs
  obtain ⟨h1, hρ1, hfix, rfl, ents, clock, ho, hmap⟩ := hst.res 0 _ rfl
  obtain ⟨h0, hρ0, hrow, hok⟩ := hst.res 1 _ rfl
  have hm : w.heap[mb]? = some (.map ents clock) := ho
  obtain ⟨u, v, rfl⟩ : ∃ u v, vs = [u, v] := by
    match vs, hargs with
    | [u, v], _ => exact ⟨u, v, rfl⟩
    | [], h => exact h.elim
    | [_], h => exact h.2.elim
    | _ :: _ :: _ :: _, h => exact h.2.2.elim
  obtain ⟨⟨hu, -⟩, ⟨rfl, -⟩, -⟩ := hargs
  rw [hρ0] at hu
  obtain rfl := Option.some.inj hu
  have hBm : w.cell? ⟨Bm, 0, none⟩ = some (.map (some mb)) := by
    have := hst.sub.1 Bm 0 _ (hB 0 _ rfl)
    exact this
  rw [encs_int] at hrow
  obtain ⟨p0, n0, c0, rfl⟩ : ∃ p n c, h0 = .slice p n c := by
    rcases hrow.2 with ⟨rfl, _⟩ | ⟨g, cap, cur, rfl, _⟩ <;> exact ⟨_, _, _, rfl⟩
  refine (callsIn_wide.1 (appendSeq_calls w p0 n0 c0 out hrow mb Bm m ents clock hBm hm hmap hN)).mono ?_
  rintro e w' ⟨v, vs, rfl, hperm, hrow', hk, hb⟩
  have hbv : ∀ (v : Value), blk v = v.ownBlock ∨ True := fun _ => .inr trivial
  have hfresh : Stab w ⟨Owned [.ext (MapN shI shI mb m), .row shI 3 out] ρ, S, ρ⟩ (ρ.set 1 v) [.ext (MapN shI shI mb m), .row shI 3 (out ++ vs)] S w' := by
    have hv : ∃ p n c, v = .slice p n c := by
      rcases hrow'.2 with ⟨rfl, _⟩ | ⟨g, cap, cur, rfl, _⟩ <;> exact ⟨_, _, _, rfl⟩
    obtain ⟨p1, n1, c1, rfl⟩ := hv
    have hob : ∀ (p : Option Addr) (n c : Nat), blk (.slice p n c) = (Value.slice p n c).ownBlock := fun p n c => by cases p <;> rfl
    exact hst.turn (i := 1) (x := .row shI 3 out) (y := .row shI 3 (out ++ vs)) rfl rfl hρ0 (fun b hb1 hb2 => hb.block b hb1 (fun e => hb2 (by rw [hob, ← e]))) hb.size hb.os hb.tape hb.output
      (fun b hb1 => by
        rw [hob] at hb1
        refine ⟨(hrow'.lt b hb1).2, ?_⟩
        rcases hk b hb1 with e | e
        · exact .inl (by rw [hob, ← e])
        · exact .inr e) ⟨by rw [encs_int]; exact hrow', fun x _ => trivial⟩
  have hρ1' : (ρ.set 1 v)[1]? = some v := by
    have : 1 < ρ.length := (List.getElem?_eq_some_iff.1 hρ0).1
    rw [List.getElem?_set_self this]
  have hone : v.oneCell' = true := by
    rcases hrow'.2 with ⟨rfl, _⟩ | ⟨g, cap, cur, rfl, _⟩ <;> rfl
  exact ⟨v, vs, S, ρ.set 1 v, rfl, ⟨hρ1', hone⟩, rfl, hfresh, Store.le_refl _, fun _ _ _ => ⟨fun _ => rfl, rfl⟩, hperm⟩
end Go.Proofs.YtpeehenohdlfdaaGreatDoor
