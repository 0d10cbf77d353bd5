/- law57: maps.Values; slices.AppendSeq. -/
import Derived.Test.YtpeehenohdlfdaaGreatDoorFg
import Derived.Tactics
import Derived.Tactics2
import Derived.RangeFuncOwn
import Derived.Sort.MapsRangeIn
import Derived.Maps.RangeRun
import Derived.Shelf.SlIterI.Collect
import Derived.Shelf.SlIter.AllValues
namespace Go.Proofs.YtpeehenohdlfdaaGreatDoor
open Go Go.Proofs Go.Vc Go.RowKit Go.Maps Go.Sort Go.Shelf
set_option maxRecDepth 100000

section
variable {F : Fence} {n : Nat} {P : Program} (w : World) {ops : Array Oper} {rest : List Oper} {o : Oper} {a : Act} {Q : Exit → Act → World → Prop}
theorem range_raw (hg : o.guard = none) (m : Operand) (t : TypeId) (hop : o.op = Op.range t m) (k e : TypeId) (ht : P.underlying t = some (.map k e)) (b : Nat) (es : Array MapEntry) (clock : Nat)
    (hm : a.eval m = .map (some b)) (hb : w.heap[b]? = some (.map es clock))
    (hK : wpListIn F n P ops Q rest (a.put o.dst (.pointer (some ⟨w.heap.size, 0, none⟩))) (w.alloc (.mapIter (some b) clock #[] clock))) :
    wpListIn F n P ops Q (o :: rest) a w := by
  refine wpListIn_plain hg fun K' hK' => ?_
  unfold Oper.wpIn
  refine ⟨?_, ?_⟩
  · simp [Oper.about, hop]
  · rw [Oper.semAt_plain F _ _ (by rw [hop]; intro c hc'; cases hc')]
    simp [execOp, hop, hm, run_range_map w t k e b es clock ht hb, Result.andThen]
    exact hK' _ _ hK
theorem next_raw (hg : o.guard = none) (it : Operand) (hop : o.op = Op.next it false) (r b clock : Nat) (seen : Array Nat) (es : Array MapEntry)
    (hit : a.eval it = .pointer (some ⟨r, 0, none⟩)) (hr : w.heap[r]? = some (.mapIter (some b) clock seen clock)) (hb : w.heap[b]? = some (.map es clock)) (hold : ∀ x ∈ es.toList, x.born < clock) (hnd : (es.toList.map (·.born)).Nodup)
    (hDone : (leftOf es seen).size = 0 → wpListIn F n P ops Q rest (a.put o.dst (.tuple #[.bool false])) w)
    (hMore : ∀ (e : MapEntry) (w' : World), e ∈ (leftOf es seen).toList → w'.heap[r]? = some (.mapIter (some b) clock (seen.push e.born) clock) → w'.heap[b]? = some (.map es clock) → w.grownBy w' (some r) → w'.heap.size = w.heap.size →
      (Instr.entry (.pointer (some ⟨r, 0, none⟩))).run P w' = .ok (.tuple #[e.key, e.val]) w' → wpListIn F n P ops Q rest (a.put o.dst (.tuple #[.bool true, e.key, e.val])) w') :
    wpListIn F n P ops Q (o :: rest) a w := by
  have hne : b ≠ r := fun e => by rw [e, hr] at hb; cases hb
  refine wpListIn_plain hg fun K' hK' => ?_
  unfold Oper.wpIn
  refine ⟨by simp [Oper.about, hop], ?_⟩
  rw [Oper.semAt_plain F _ _ (by rw [hop]; intro c hc'; cases hc')]
  rcases run_next_at (P := P) w o.type r b clock clock seen es clock hr hb hold (Nat.le_refl _) with ⟨h0, hrun⟩ | ⟨e, he, w1, hal, hrun⟩
  · simp [execOp, hop, hit, hrun, Result.andThen]
    exact hK' _ _ (hDone h0)
  · have hr1 : w1.heap[r]? = some (.mapIter (some b) clock seen clock) := by rcases hal with rfl | rfl <;> exact hr
    have hb1 : w1.heap[b]? = some (.map es clock) := by rcases hal with rfl | rfl <;> exact hb
    have hset := MapKept.heap_set (o' := .mapIter (some b) clock (seen.push e.born) clock) hr1
    have hb' : (ChangeMaps.setBlock w1 r (.mapIter (some b) clock (seen.push e.born) clock)).heap[b]? = some (.map es clock) := (hset.2 b hne).trans hb1
    have hem := (mem_left he).1
    simp [execOp, hop, hit, hrun, Result.andThen]
    refine hK' _ _ (hMore e _ he hset.1 hb' ?_ ?_ (run_entry_at _ r b clock seen es clock e hset.1 hb' hem hnd))
    · rcases hal with rfl | rfl <;> exact ⟨rfl, rfl, rfl, by simp [ChangeMaps.setBlock], fun i _ hi => hset.2 i (fun e1 => hi (by rw [e1]))⟩
    · rcases hal with rfl | rfl <;> simp [ChangeMaps.setBlock]
end
theorem nd_map {α β : Type} {f : α → β} {l : List α} (h : (l.map f).Nodup) : l.Nodup := by
  unfold List.Nodup at h ⊢
  rw [List.pairwise_map] at h
  exact h.imp fun q e => q (by rw [e])
/-- What has come so far. -/
def Came (ents : Array MapEntry) (seen : Array Nat) (ys : List Int) : Prop := ∃ sq : List MapEntry, (sq.map (·.born)).Nodup ∧ (∀ x ∈ sq, x ∈ ents.toList) ∧ seen.toList = sq.map (·.born) ∧ ys.map (Value.int .i64) = sq.map (·.val)
theorem came_nil (ents : Array MapEntry) : Came ents #[] [] := ⟨[], by simp, by simp, rfl, rfl⟩
theorem came_snoc {ents : Array MapEntry} {seen : Array Nat} {ys : List Int} {e : MapEntry} {y : Int} (h : Came ents seen ys) (he : e ∈ (leftOf ents seen).toList) (hy : e.val = .int .i64 y) : Came ents (seen.push e.born) (ys ++ [y]) := by
  obtain ⟨sq, h1, h2, h3, h4⟩ := h
  obtain ⟨e1, e2⟩ := mem_left he
  refine ⟨sq ++ [e], ?_, ?_, ?_, ?_⟩
  · rw [List.map_append, List.nodup_append]
    refine ⟨h1, by simp, fun a ha b hb => ?_⟩
    simp at hb
    subst hb
    intro q
    subst q
    rw [← h3] at ha
    have : seen.contains e.born = true := by simpa using ha
    rw [this] at e2; cases e2
  · intro x hx
    rcases List.mem_append.1 hx with hx | hx
    · exact h2 x hx
    · obtain rfl := List.mem_singleton.1 hx; exact e1
  · rw [Array.toList_push, h3, List.map_append]; rfl
  · rw [List.map_append, List.map_append, h4]; simp [hy]
theorem came_all {ents : Array MapEntry} {seen : Array Nat} {ys : List Int} {clock : Nat} {m : List (Int × Int)} (h : Came ents seen ys) (hm : mapIs shI shI ents clock m) (h0 : (leftOf ents seen).size = 0) : ys.Perm (m.map (·.2)) := by
  obtain ⟨sq, h1, h2, h3, h4⟩ := h
  have hnd := hm.2.2.1
  have hp : sq.Perm ents.toList := by
    refine (List.perm_ext_iff_of_nodup (nd_map h1) (nd_map hnd)).2 fun x => ⟨h2 x, fun hx => ?_⟩
    have := all_seen ents seen h0 x hx
    have hb : x.born ∈ sq.map (·.born) := by rw [← h3]; simpa using this
    obtain ⟨y, hy, hyb⟩ := List.mem_map.1 hb
    rw [← born_inj hnd (h2 y hy) hx hyb]; exact hy
  have e1 : ys = (sq.map (·.val)).map intOf := by rw [← h4, List.map_map]; exact (List.map_id' _).symm
  have e2 : m.map (·.2) = (ents.toList.map (·.val)).map intOf := by
    have := congrArg (List.map (fun p : Value × Value => intOf p.2)) hm.1
    rw [List.map_map, List.map_map] at this
    rw [List.map_map]
    exact this.symm
  rw [e1, e2]
  exact (hp.map _).map _
set_option maxHeartbeats 2000000 in
theorem values_stops (n : Nat) (hn : 1 ≤ n) (Bm mb : Nat) (m : List (Int × Int)) (ents : Array MapEntry) (clock : Nat) (w : World) (hBm : w.cell? ⟨Bm, 0, none⟩ = some (.map (some mb))) (hm : w.heap[mb]? = some (.map ents clock)) (hmap : mapIs shI shI ents clock m) :
    SeqStops Fence.wide n Tryz.prog 53 #[.pointer (some ⟨Bm, 0, none⟩)] (Value.int .i64) (fun xs => xs.Perm (m.map (·.2))) (fun _ => True) m.length w := by
  intro l J Jx W hW hJ hJx hY h0
  have hBm' : W.cell? ⟨Bm, 0, none⟩ = some (.map (some mb)) := (World.cell?_of_block (hW.block Bm (World.block_lt_of_cell? w ⟨Bm, 0, none⟩ hBm))).trans hBm
  have hm' := (hW.block mb (Array.getElem?_eq_some_iff.1 hm).1).trans hm
  have hml := (Array.getElem?_eq_some_iff.1 hm').1
  have hlen : ents.size = m.length := by have := congrArg List.length hmap.1; simpa using this
  have hold := hmap.2.2.2
  have hnd := hmap.2.2.1
  show CallsIn Fence.wide n Tryz.prog 53 #[.func (.yield l) #[] #[], .pointer (some ⟨Bm, 0, none⟩)] W _
  refine callsIn_of_wp Tryz.func53 rfl trivial ?_ rfl
  simp only [Tryz.ntmps53, List.size_toArray, List.length_cons, List.length_nil, Nat.reduceAdd, Nat.reduceSub, Array.replicate_succ, Array.replicate_zero, List.push_toArray, List.append_toArray, List.nil_append, List.cons_append]
  have h27 : Tryz.prog.underlying 27 = some (.map 3 3) := Tryz.underlying27
  gi_wp2_with (first
    | (gi_at_range; refine range_raw _ rfl _ 27 rfl 3 3 h27 mb ents clock rfl hm' ?_)
    | gi_in)
  go_frame
  gi_loopw [4] (fun _ wr => ∃ (seen : Array Nat) (ys : List Int), wr.heap[W.heap.size]? = some (.mapIter (some mb) clock seen clock) ∧ wr.heap[mb]? = some (.map ents clock) ∧ Came ents seen ys ∧ ys.length + (leftOf ents seen).size ≤ m.length ∧ J ys wr)
    (fun _ wr => wr.rangeLeft mb W.heap.size)
  case atStart =>
    refine ⟨#[], [], (MapKept.heap_alloc W _).1, ((MapKept.heap_alloc W _).2 mb hml).trans hm', came_nil ents, ?_, hJ [] W _ none h0 (World.grownBy_alloc W _ none) (fun r e => by cases e)⟩
    have : (leftOf ents #[]).size ≤ ents.size := by unfold leftOf; exact Array.size_filter_le ..
    simp only [List.length_nil]; omega
  case round =>
    obtain ⟨seen, ys, hr, hb, hC, hcs, hJs⟩ := hrel
    have hleft : wr.rangeLeft mb W.heap.size = (leftOf ents seen).size := by simp only [World.rangeLeft, hb, hr]
    gi_wp2_with (first
      | (gi_at_next; refine next_raw _ rfl _ rfl W.heap.size mb clock seen ents rfl hr hb hold hnd ?_ ?_)
      | gi_in)
    · -- nothing is left
      intro hc0
      gi_wp2
      go_end0
      exact ⟨⟨_, rfl⟩, .inl ⟨ys, came_all hC hmap (by rw [hc0]; rfl), hJs⟩⟩
    · intro e w2 he0 hr2 hb2 hg2 hs2 hen
      have he : e ∈ (leftOf ents seen).toList := by simpa using he0
      clear he0
      obtain ⟨y, hy⟩ : ∃ y, e.val = .int .i64 y := by
        have : e.val ∈ ents.toList.map (·.val) := List.mem_map_of_mem (mem_left he).1
        have e2 := congrArg (List.map (fun p : Value × Value => p.2)) hmap.1
        rw [List.map_map, List.map_map] at e2
        have e3 : ents.toList.map (·.val) = m.map (fun p => Value.int .i64 p.2) := e2
        rw [e3] at this
        obtain ⟨p, _, hp⟩ := List.mem_map.1 this
        exact ⟨p.2, hp.symm⟩
      have hC2 := came_snoc hC he hy
      have hsh := left_shrinks ents seen e he
      rw [hy] at hen
      have hJ2 : J ys w2 := hJ ys wr w2 (some W.heap.size) hJs hg2 (fun r e => by cases e; exact ⟨Nat.le_refl _, _, hr, rfl⟩)
      obtain ⟨fn, tmps, assign, body, hyl, hR⟩ := hY ys y w2 hJ2 (by omega)
      clear hs2
      rw [hy]
      gi_wp2
      refine hR.mono ?_
      rintro e W3 (⟨rfl, hJ3, hk3⟩ | ⟨rfl, hJx3⟩)
      · gi_wp2
        have hr3 := hk3.same _ _ hr2 rfl
        have hb3 := hk3.same _ _ hb2 rfl
        go_roundw
        case rel => exact ⟨_, ys ++ [y], hr3, hb3, hC2, by simp; omega, hJ3⟩
        case measure => rw [hleft]; simp only [World.rangeLeft, hb3, hr3]; exact hsh
      · gi_wp2
        refine bodyPost_ret (results_none rfl _ _ _) rfl ?_
        exact ⟨⟨_, rfl⟩, .inr ⟨ys ++ [y], trivial, hJx3⟩⟩
end Go.Proofs.YtpeehenohdlfdaaGreatDoor
