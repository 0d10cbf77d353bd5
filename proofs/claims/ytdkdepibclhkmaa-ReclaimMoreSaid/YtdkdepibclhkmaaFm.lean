/- law15: ReclaimSweeps. -/
import Derived.Test.YtdkdepibclhkmaaFl
namespace Go.Proofs.Ytdkdepibclhkmaa
open Go Go.Vc
set_option maxRecDepth 100000

theorem mget_uM {L : List Int} (h : L.Nodup) {y : Int} (hy : y ∈ L) : mget shI (uM L) y = some true :=
  (mget_some (k := shI) rfl (show keysOnce (k := shI) (uM L) from by unfold keysOnce; rw [uM_keys]; exact h)).2 (List.mem_map.2 ⟨y, hy, rfl⟩)

set_option maxHeartbeats 1000000 in
theorem sweeps_law (S : Store) (p q o : Hd) (xs : List It) (ann held : List Int) (hl : xs.length = p.2.1) (hr : RowRd S p.1 shT xs) (hm : ann.length = q.2.1) (hr' : RowRd S q.1 shI ann) (ho : held.length = o.2.1) (hr2 : RowRd S o.1 shI held) :
    Pure Try.prog 4 S [slV p, slV q, slV o] rB (fun _ b => b = true) := by
  refine pure_vc agrees Try.func4 rfl rfl (fun S S' q hle h => h) ?_
  refine ⟨⟨_, rfl, rfl, rfl⟩, .inl ⟨_, _, _, few_spec S p q o, fun S1 w hS1 hw => ?_⟩⟩
  have hw : w = (decide (p.2.1 ≤ 100) && decide (q.2.1 ≤ 40) && decide (o.2.1 ≤ 40)) := hw
  refine And.intro (fun h0 => ?_) (fun h0 => ?_)
  · exact ⟨⟨_, rfl, rfl, rfl⟩, .inl ⟨_, _, _, awake_spec S1, fun S2 b hS2 hb => ⟨rfl, _, rfl, hb⟩⟩⟩
  have h0 : (!w) = false := h0
  have hw1 : w = true := by simpa using h0
  rw [hw] at hw1
  simp only [Bool.and_eq_true, decide_eq_true_eq] at hw1
  obtain ⟨⟨n1, n2⟩, n3⟩ := hw1
  refine ⟨⟨_, rfl, rfl, rfl⟩, .inl ⟨_, _, _, bag_spec S1 p xs hl (hr.le hS1) (by omega), fun S2 z hS2 hz => ?_⟩⟩
  obtain ⟨b, l, cs⟩ := z
  have hz : (b.2.1 = (bagOf xs).length ∧ RowRd S2 b.1 shT (bagOf xs)) ∧ l.2.1 = (bagOf xs).length ∧ RowRd S2 l.1 shT (bagOf xs) := hz
  have hbl := bagOf_length xs
  have hgb := good_bag xs
  generalize bagOf xs = B at hz hbl hgb
  obtain ⟨⟨hb1, hb2⟩, hl1, hl2⟩ := hz
  have le12 := Store.le_trans hS1 hS2
  clear hw h0
  refine ⟨[], [(10, shT, 34)], Nat, [12, 13] ++ List.range' 34 60, fun i => [(33, rI i)], fun i => [.box [.v (slV b)], .map shI .bool (uM (goneOf (B.take i) ann held)), .row shT 34 (keptOf (B.take i) ann held)], fun _ => S2, fun i => i ≤ B.length, fun i => B.length - i, ?_⟩
  refine And.intro (Exists.intro 0 (And.intro (And.intro (And.intro ?_ rfl) (And.intro rfl (Store.le_refl _))) (Nat.zero_le _))) ?_
  · repeat' first | exact trivial | exact rfl | refine And.intro ?_ ?_
  rintro i hi
  have i0 : (0 : Int) ≤ ((i : Nat) : Int) := Int.natCast_nonneg _
  refine And.intro (fun h => ?_) (fun h => ?_)
  · have hil : i < B.length := by
      have : ((i : Nat) : Int) < ((l.2.1 : Nat) : Int) := of_decide_eq_true h
      omega
    have i1 : ((i : Nat) : Int) < ((l.2.1 : Nat) : Int) := by omega
    have hwi : IntKind.i64.wrap (((i : Nat) : Int) + 1) = ((i + 1 : Nat) : Int) := wrap_i64 (by omega) (by omega)
    have hx : B[i]? = some B[i] := List.getElem?_eq_getElem hil
    obtain ⟨x, hxx⟩ : ∃ x, B[i] = x := ⟨_, rfl⟩
    rw [hxx] at hx
    obtain ⟨b1, o1, hp, hok, hrd⟩ := row_at hl2 hx
    have hk := kept_length (B.take i) ann held
    rw [List.length_take] at hk
    have e1 := kept_step hx ann held
    have e2 := gone_step hx ann held
    refine ⟨i0, i1, b1, o1, hp, x, ⟨trivial, trivial, trivial⟩, hrd, ⟨_, rfl, rfl, rfl⟩, .inl ⟨_, _, _, ref_way_spec S2 x q o ann held hm (hr'.le le12) ho (hr2.le le12) (by omega) (by omega), fun S3 t hS3 ht => ?_⟩⟩
    have ht : t = way x ann held := ht
    refine And.intro (fun h5 => ?_) (fun h5 => ?_)
    · have h5 : t = true := h5
      rw [← ht, h5] at e1 e2
      refine ⟨[x], ⟨rfl, rfl⟩, fun _ _ => ⟨trivial, trivial, trivial⟩, by show ((keptOf (B.take i) ann held).length + 1) * 24 ≤ 140737488355328; omega, ((i + 1 : Nat) : Int), hwi, i + 1, ⟨⟨?_, rfl⟩, ?_, hS3⟩, hil, ?_⟩
      · repeat' first | exact trivial | exact rfl | refine And.intro ?_ ?_
      · show [_, _, _] = [_, _, _]
        rw [e1, e2]
        simp
      · show B.length - (i + 1) < B.length - i
        omega
    · have h5 : t = false := h5
      rw [← ht, h5] at e1 e2
      refine ⟨x.1, true, rfl, rfl, trivial, ((i + 1 : Nat) : Int), hwi, i + 1, ⟨⟨?_, rfl⟩, ?_, hS3⟩, hil, ?_⟩
      · repeat' first | exact trivial | exact rfl | refine And.intro ?_ ?_
      · show [_, _, _] = [_, _, _]
        rw [e1, e2, mset_uAdd, uAdd, if_neg (gone_new hgb hx ann held)]
        simp
      · show B.length - (i + 1) < B.length - i
        omega
  · have hil : i = B.length := by
      have : ¬ ((i : Nat) : Int) < ((l.2.1 : Nat) : Int) := of_decide_eq_false h
      omega
    have htk : B.take i = B := by rw [hil, List.take_length]
    refine ⟨⟨_, rfl, rfl, rfl⟩, .inl ⟨_, _, _, sweep_spec S2 b q o B ann held hb1.symm hb2 hm (hr'.le le12) ho (hr2.le le12) (by omega) (by omega) (by omega), fun S3 y hS3 hy => ?_⟩⟩
    obtain ⟨k, g⟩ := y
    have hy : (k.2.1 = (keptOf B ann held).length ∧ RowRd S3 k.1 shT (keptOf B ann held)) ∧ g.2.1 = (goneOf B ann held).length ∧ RowRd S3 g.1 shI (sorted (goneOf B ann held)) := hy
    obtain ⟨⟨hk1, hk2⟩, hg1, hg2⟩ := hy
    have hkl := kept_length B ann held
    have hgl := gone_length B ann held
    have hnd := gone_nodup hgb ann held
    refine ⟨⟨_, rfl, rfl, rfl⟩, .inl fun p1 c1 S4 hS4 hr4 _ => ⟨_, _, _, is_spec S4 k (p1, _, c1) (keptOf B ann held) (keptOf B ann held) hk1.symm (hk2.le hS4) (by rw [htk]) (htk ▸ hr4) (by omega), fun S5 t hS5 ht => ?_⟩⟩
    have ht : t = decide (keptOf B ann held = keptOf B ann held) := ht
    refine onF' (by rw [ht]; simp) ?_
    have hsm : (uM (goneOf (B.take i) ann held)).length = (goneOf B ann held).length := by rw [htk]; simp [uM]
    refine onF' (by rw [hg1]; show (_ != ((uM (goneOf (B.take i) ann held)).length : Int)) = false; rw [hsm]; simp) ?_
    have le25 := Store.le_trans hS3 (Store.le_trans hS4 hS5)
    refine ⟨⟨_, rfl, rfl, rfl⟩, .inl ⟨_, _, _, is_spec S5 b l B B hb1.symm (hb2.le le25) hl1.symm (hl2.le le25) (by omega), fun S6 t2 hS6 ht2 => ?_⟩⟩
    have ht2 : t2 = decide (B = B) := ht2
    refine onF' (by rw [ht2]; simp) ?_
    refine ⟨[], [], Nat, [14, 16, 17] ++ List.range' 76 60, fun j => [(75, rI j)], fun j => [.box [.v (slV b)], .map shI .bool (uM (goneOf (B.take i) ann held))], fun _ => S6, fun j => j ≤ (goneOf B ann held).length, fun j => (goneOf B ann held).length - j, ?_⟩
    refine And.intro (Exists.intro 0 (And.intro (And.intro (And.intro ?_ rfl) (And.intro rfl (Store.le_refl _))) (Nat.zero_le _))) ?_
    · repeat' first | exact trivial | exact rfl | refine And.intro ?_ ?_
    rintro j hj
    have j0 : (0 : Int) ≤ ((j : Nat) : Int) := Int.natCast_nonneg _
    refine And.intro (fun h => ?_) (fun h => ?_)
    · have hjl : j < (goneOf B ann held).length := by
        have : ((j : Nat) : Int) < ((g.2.1 : Nat) : Int) := of_decide_eq_true h
        omega
      have j1 : ((j : Nat) : Int) < ((g.2.1 : Nat) : Int) := by omega
      have hwj : IntKind.i64.wrap (((j : Nat) : Int) + 1) = ((j + 1 : Nat) : Int) := wrap_i64 (by omega) (by omega)
      have hsl := sorted_length (goneOf B ann held)
      have hy : (sorted (goneOf B ann held))[j]? = some (sorted (goneOf B ann held))[j] := List.getElem?_eq_getElem (by omega)
      obtain ⟨y, hyy⟩ : ∃ y, (sorted (goneOf B ann held))[j]'(by omega) = y := ⟨_, rfl⟩
      rw [hyy] at hy
      obtain ⟨b1, o1, hp, hok, hrd⟩ := row_at (hg2.le (Store.le_trans (Store.le_trans hS4 hS5) hS6)) hy
      have hyG : y ∈ goneOf (B.take i) ann held := by rw [htk]; exact (sorted_mem _ _).1 (List.mem_of_getElem? hy)
      have hmg : (mget shI (uM (goneOf (B.take i) ann held)) y).getD false = true := by rw [mget_uM (by rw [htk]; exact hnd) hyG]; rfl
      refine ⟨j0, j1, b1, o1, hp, y, trivial, hrd, y, false, rfl, rfl, ?_⟩
      refine onF' (by rw [hmg]; rfl) ?_
      refine And.intro (fun h7 => ?_) (fun h7 => ?_)
      · have h7 : ((j : Nat) : Int) > 0 := of_decide_eq_true h7
        obtain ⟨j', rfl⟩ : ∃ j', j = j' + 1 := ⟨j - 1, by omega⟩
        have hy2 : (sorted (goneOf B ann held))[j']? = some (sorted (goneOf B ann held))[j'] := List.getElem?_eq_getElem (by omega)
        have hlt : (sorted (goneOf B ann held))[j']'(by omega) < y := by
          rw [← hyy]
          exact List.pairwise_iff_getElem.1 (sorted_strict hnd) j' (j' + 1) (by omega) (by omega) (Nat.lt_succ_self _)
        obtain ⟨z, hzz⟩ : ∃ z, (sorted (goneOf B ann held))[j']'(by omega) = z := ⟨_, rfl⟩
        rw [hzz] at hy2 hlt
        obtain ⟨b2, o2, hp2, hok2, hrd2⟩ := row_at (hg2.le (Store.le_trans (Store.le_trans hS4 hS5) hS6)) hy2
        have hwm : IntKind.i64.wrap (((j' + 1 : Nat) : Int) - 1) = ((j' : Nat) : Int) := by
          rw [show ((j' + 1 : Nat) : Int) - 1 = ((j' : Nat) : Int) by omega]
          exact wrap_i64 (by omega) (by omega)
        refine ⟨((j' : Nat) : Int), hwm, Int.natCast_nonneg _, (by show ((j' : Nat) : Int) < ((g.2.1 : Nat) : Int); omega), b2, o2, hp2, z, trivial, hrd2, ?_⟩
        refine onF' (decide_eq_false (by omega)) ⟨((j' + 1 + 1 : Nat) : Int), hwj, j' + 1 + 1, ⟨⟨?_, rfl⟩, rfl, Store.le_refl _⟩, hjl, ?_⟩
        · repeat' first | exact trivial | exact rfl | refine And.intro ?_ ?_
        · show (goneOf B ann held).length - (j' + 1 + 1) < (goneOf B ann held).length - (j' + 1)
          omega
      · refine onF' rfl ⟨((j + 1 : Nat) : Int), hwj, j + 1, ⟨⟨?_, rfl⟩, rfl, Store.le_refl _⟩, hjl, ?_⟩
        · repeat' first | exact trivial | exact rfl | refine And.intro ?_ ?_
        · show (goneOf B ann held).length - (j + 1) < (goneOf B ann held).length - j
          omega
    · exact ⟨⟨_, rfl, rfl, rfl⟩, .inl ⟨_, _, _, awake_spec S6, fun S7 b hS7 hb => ⟨rfl, _, rfl, hb⟩⟩⟩
end Go.Proofs.Ytdkdepibclhkmaa
