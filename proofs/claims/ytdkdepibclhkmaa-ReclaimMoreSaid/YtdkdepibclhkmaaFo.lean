/- law15: ReclaimMore. -/
import Derived.Test.YtdkdepibclhkmaaFm
namespace Go.Proofs.Ytdkdepibclhkmaa
open Go Go.Vc
set_option maxRecDepth 100000

@[reducible] def tM (l : List It) : List (It × Bool) := l.map fun x => (x, true)
theorem tM_keys (l : List It) : (tM l).map (·.1) = l := by
  induction l with
  | nil => rfl
  | cons x l ih => simp only [tM, List.map_cons] at ih ⊢; rw [ih]
theorem mset_tM {l : List It} {x : It} (h : x ∉ l) : mset shT (tM l) x true = tM (l ++ [x]) := by
  rw [mset_new (k := shT) rfl (by rw [tM_keys]; exact h)]
  simp [tM]
theorem mget_tM {l : List It} (hl : l.Nodup) {x : It} (h : x ∈ l) : mget shT (tM l) x = some true :=
  (mget_some (k := shT) rfl (show keysOnce (k := shT) (tM l) from by unfold keysOnce; rw [tM_keys]; exact hl)).2 (List.mem_map.2 ⟨x, h, rfl⟩)
theorem GoodBag.items_nodup {xs : List It} (h : GoodBag xs) : xs.Nodup := h.2.imp fun {a b} hab e => hab (by rw [e])
theorem it_new {l : List It} (h : l.Nodup) {i : Nat} {x : It} (hx : l[i]? = some x) : x ∉ l.take i := by
  have h1 : (l.take i ++ [x]).Nodup := by
    have := h.sublist (List.take_sublist (i + 1) l)
    rwa [List.take_add_one, hx] at this
  rw [List.nodup_append] at h1
  exact fun hm => h1.2.2 x hm x (by simp) rfl
theorem kept_more {B : List It} {ann held : List Int} {n m : Nat} {x : It} (h : x ∈ keptOf B (ann.take n) (held.take m)) : x ∈ keptOf B ann held := by
  obtain ⟨h1, h2⟩ := List.mem_filter.1 h
  refine List.mem_filter.2 ⟨h1, ?_⟩
  rw [way, Bool.or_eq_true] at h2 ⊢
  rcases h2 with h2 | h2
  · left
    obtain ⟨e, h3, h4⟩ := List.any_eq_true.1 h2
    exact List.any_eq_true.2 ⟨e, List.mem_of_mem_take h3, h4⟩
  · right
    obtain ⟨e, h3, h4⟩ := List.any_eq_true.1 h2
    exact List.any_eq_true.2 ⟨e, List.mem_of_mem_take h3, h4⟩

set_option maxHeartbeats 1000000 in
theorem more_law (S : Store) (p q o : Hd) (xs : List It) (ann held : List Int) (hl : xs.length = p.2.1) (hr : RowRd S p.1 shT xs) (hm : ann.length = q.2.1) (hr' : RowRd S q.1 shI ann) (ho : held.length = o.2.1) (hr2 : RowRd S o.1 shI held) (hqc : q.2.1 ≤ q.2.2) (hoc : o.2.1 ≤ o.2.2) :
    Pure Try.prog 7 S [slV p, slV q, slV o] rB (fun _ b => b = true) := by
  refine pure_vc agrees Try.func7 rfl rfl (fun S S' q hle h => h) ?_
  refine ⟨⟨_, rfl, rfl, rfl⟩, .inl ⟨_, _, _, few_spec S p q o, fun S1 w hS1 hw => ?_⟩⟩
  have hw : w = (decide (p.2.1 ≤ 100) && decide (q.2.1 ≤ 40) && decide (o.2.1 ≤ 40)) := hw
  refine And.intro (fun h0 => ?_) (fun h0 => ?_)
  · exact ⟨⟨_, rfl, rfl, rfl⟩, .inl ⟨_, _, _, awake_spec S1, fun S2 b hS2 hb => ⟨rfl, _, rfl, hb⟩⟩⟩
  have h0 : (!w) = false := h0
  have hw1 : w = true := by simpa using h0
  rw [hw] at hw1
  simp only [Bool.and_eq_true, decide_eq_true_eq] at hw1
  obtain ⟨⟨n1, n2⟩, n3⟩ := hw1
  refine ⟨⟨_, rfl, rfl, rfl⟩, .inl ⟨_, _, _, bag_spec S1 p xs hl (hr.le hS1) (by omega), fun S2 z hS2 hz => ?_⟩⟩
  obtain ⟨b, l, cs⟩ := z
  have hz : (b.2.1 = (bagOf xs).length ∧ RowRd S2 b.1 shT (bagOf xs)) ∧ l.2.1 = (bagOf xs).length ∧ RowRd S2 l.1 shT (bagOf xs) := hz
  have hbl := bagOf_length xs
  have hgb := good_bag xs
  generalize bagOf xs = B at hz hbl hgb
  obtain ⟨⟨hb1, hb2⟩, hl1, hl2⟩ := hz
  have le12 := Store.le_trans hS1 hS2
  clear hw h0
  have le12q := hr'.le le12
  have le12o := hr2.le le12
  refine ⟨or7_4, [1], oF7_4, by kernel_rfl, ?_⟩
  have d1 : IntKind.i64.wrap (((q.2.1 : Nat) : Int).tdiv 2) = ((q.2.1 / 2 : Nat) : Int) := by
    rw [show ((q.2.1 : Nat) : Int).tdiv 2 = ((q.2.1 / 2 : Nat) : Int) from by rw [Int.tdiv_eq_ediv_of_nonneg (Int.natCast_nonneg _)]; omega]
    exact wrap_i64 (by omega) (by omega)
  have d2 : IntKind.i64.wrap (((o.2.1 : Nat) : Int).tdiv 2) = ((o.2.1 / 2 : Nat) : Int) := by
    rw [show ((o.2.1 : Nat) : Int).tdiv 2 = ((o.2.1 / 2 : Nat) : Int) from by rw [Int.tdiv_eq_ediv_of_nonneg (Int.natCast_nonneg _)]; omega]
    exact wrap_i64 (by omega) (by omega)
  refine ⟨by decide, ((q.2.1 / 2 : Nat) : Int), d1, ?_⟩
  refine ⟨Int.natCast_nonneg _, (show q.2.1 / 2 ≤ q.2.2 by omega), by decide, ((o.2.1 / 2 : Nat) : Int), d2, Int.natCast_nonneg _, (show o.2.1 / 2 ≤ o.2.2 by omega), ?_, ?_, trivial⟩
  all_goals
    refine ⟨⟨_, rfl, rfl, rfl⟩, .inl ⟨_, _, _, sweep_spec S2 b (q.1, q.2.1 / 2, q.2.2) (o.1, o.2.1 / 2, o.2.2) B (ann.take (q.2.1 / 2)) (held.take (o.2.1 / 2)) hb1.symm hb2 (by rw [List.length_take]; show _ = q.2.1 / 2; omega) (le12q.take _) (by rw [List.length_take]; show _ = o.2.1 / 2; omega) (le12o.take _) (by omega) (by rw [List.length_take]; omega) (by rw [List.length_take]; omega), fun S3 y hS3 hy => ?_⟩⟩
    obtain ⟨k, g⟩ := y
    have hy : (k.2.1 = (keptOf B (ann.take (q.2.1 / 2)) (held.take (o.2.1 / 2))).length ∧ RowRd S3 k.1 shT (keptOf B (ann.take (q.2.1 / 2)) (held.take (o.2.1 / 2)))) ∧ g.2.1 = (goneOf B (ann.take (q.2.1 / 2)) (held.take (o.2.1 / 2))).length ∧ RowRd S3 g.1 shI (sorted (goneOf B (ann.take (q.2.1 / 2)) (held.take (o.2.1 / 2)))) := hy
    obtain ⟨⟨hk1, hk2⟩, -⟩ := hy
    refine ⟨⟨_, rfl, rfl, rfl⟩, .inl ⟨_, _, _, sweep_spec S3 b q o B ann held hb1.symm (hb2.le hS3) hm (le12q.le hS3) ho (le12o.le hS3) (by omega) (by omega) (by omega), fun S4 y hS4 hy => ?_⟩⟩
    obtain ⟨k2, g2⟩ := y
    have hy : (k2.2.1 = (keptOf B ann held).length ∧ RowRd S4 k2.1 shT (keptOf B ann held)) ∧ g2.2.1 = (goneOf B ann held).length ∧ RowRd S4 g2.1 shI (sorted (goneOf B ann held)) := hy
    obtain ⟨⟨hk21, hk22⟩, -⟩ := hy
    have hkl := kept_length B ann held
    have hkl2 := kept_length B (ann.take (q.2.1 / 2)) (held.take (o.2.1 / 2))
    refine ⟨⟨_, rfl, rfl, rfl⟩, .inl ⟨_, _, _, items_spec S4 k2 (keptOf B ann held) hk21.symm hk22 (by omega), fun S5 u hS5 hu => ?_⟩⟩
    have hu : u.2.1 = (keptOf B ann held).length ∧ RowRd S5 u.1 shT (keptOf B ann held) := hu
    have hnd : (keptOf B ann held).Nodup := (hgb.filter _).items_nodup
    refine ⟨[], [], Nat, [15, 16, 17, 18] ++ List.range' 58 80, fun i => [(57, rI i)], fun i => [.box [.v (slV b)], .box [.v (slV k)], .box [.v (slV k2)], .map shT .bool (tM ((keptOf B ann held).take i))], fun _ => S5, fun i => i ≤ (keptOf B ann held).length, fun i => (keptOf B ann held).length - i, ?_⟩
    refine And.intro (Exists.intro 0 (And.intro (And.intro (And.intro ?_ rfl) (And.intro rfl (Store.le_refl _))) (Nat.zero_le _))) ?_
    · repeat' first | exact trivial | exact rfl | refine And.intro ?_ ?_
    rintro i hi
    have i0 : (0 : Int) ≤ ((i : Nat) : Int) := Int.natCast_nonneg _
    refine And.intro (fun h => ?_) (fun h => ?_)
    · have hil : i < (keptOf B ann held).length := by
        have : ((i : Nat) : Int) < ((u.2.1 : Nat) : Int) := of_decide_eq_true h
        omega
      have i1 : ((i : Nat) : Int) < ((u.2.1 : Nat) : Int) := by omega
      have hwi : IntKind.i64.wrap (((i : Nat) : Int) + 1) = ((i + 1 : Nat) : Int) := wrap_i64 (by omega) (by omega)
      have hx : (keptOf B ann held)[i]? = some (keptOf B ann held)[i] := List.getElem?_eq_getElem hil
      obtain ⟨x, hxx⟩ : ∃ x, (keptOf B ann held)[i] = x := ⟨_, rfl⟩
      rw [hxx] at hx
      obtain ⟨b1, o1, hp, hok, hrd⟩ := row_at hu.2 hx
      have hnew := it_new hnd hx
      refine ⟨i0, i1, b1, o1, hp, x, ⟨trivial, trivial, trivial⟩, hrd, x, true, rfl, rfl, trivial, ((i + 1 : Nat) : Int), hwi, i + 1, ⟨⟨?_, rfl⟩, ?_, Store.le_refl _⟩, hil, ?_⟩
      · repeat' first | exact trivial | exact rfl | refine And.intro ?_ ?_
      · show [_, _, _, _] = [_, _, _, _]
        rw [mset_tM hnew, List.take_add_one, hx]
        rfl
      · show (keptOf B ann held).length - (i + 1) < (keptOf B ann held).length - i
        omega
    · have hil : i = (keptOf B ann held).length := by
        have : ¬ ((i : Nat) : Int) < ((u.2.1 : Nat) : Int) := of_decide_eq_false h
        omega
      have htk : (keptOf B ann held).take i = keptOf B ann held := by rw [hil, List.take_length]
      refine ⟨⟨_, rfl, rfl, rfl⟩, .inl ⟨_, _, _, items_spec S5 k _ hk1.symm (hk2.le (Store.le_trans hS4 hS5)) (by omega), fun S6 v hS6 hv => ?_⟩⟩
      have hv : v.2.1 = (keptOf B (ann.take (q.2.1 / 2)) (held.take (o.2.1 / 2))).length ∧ RowRd S6 v.1 shT (keptOf B (ann.take (q.2.1 / 2)) (held.take (o.2.1 / 2))) := hv
      obtain ⟨K, hK⟩ : ∃ K, keptOf B (ann.take (q.2.1 / 2)) (held.take (o.2.1 / 2)) = K := ⟨_, rfl⟩
      have hin : ∀ x ∈ K, x ∈ (keptOf B ann held).take i := fun x hx => by rw [htk]; exact kept_more (hK ▸ hx)
      rw [hK] at hv hkl2
      refine ⟨[], [], Nat, [15, 16, 17, 18] ++ List.range' 68 80, fun i => [(67, rI i)], fun _ => [.box [.v (slV b)], .box [.v (slV k)], .box [.v (slV k2)], .map shT .bool (tM ((keptOf B ann held).take i))], fun _ => S6, fun j => j ≤ K.length, fun j => K.length - j, ?_⟩
      refine And.intro (Exists.intro 0 (And.intro (And.intro (And.intro ?_ rfl) (And.intro rfl (Store.le_refl _))) (Nat.zero_le _))) ?_
      · repeat' first | exact trivial | exact rfl | refine And.intro ?_ ?_
      rintro j hj
      have j0 : (0 : Int) ≤ ((j : Nat) : Int) := Int.natCast_nonneg _
      refine And.intro (fun h => ?_) (fun h => ?_)
      · have hjl : j < K.length := by
          have : ((j : Nat) : Int) < ((v.2.1 : Nat) : Int) := of_decide_eq_true h
          omega
        have j1 : ((j : Nat) : Int) < ((v.2.1 : Nat) : Int) := by omega
        have hwj : IntKind.i64.wrap (((j : Nat) : Int) + 1) = ((j + 1 : Nat) : Int) := wrap_i64 (by omega) (by omega)
        have hx : K[j]? = some K[j] := List.getElem?_eq_getElem hjl
        obtain ⟨x, hxx⟩ : ∃ x, K[j] = x := ⟨_, rfl⟩
        rw [hxx] at hx
        obtain ⟨b1, o1, hp, hok, hrd⟩ := row_at hv.2 hx
        have hmg : (mget shT (tM ((keptOf B ann held).take i)) x).getD false = true := by rw [mget_tM (by rw [htk]; exact hnd) (hin x (List.mem_of_getElem? hx))]; rfl
        refine ⟨j0, j1, b1, o1, hp, x, ⟨trivial, trivial, trivial⟩, hrd, x, false, rfl, rfl, ?_⟩
        refine onF' (by rw [hmg]; rfl) ⟨((j + 1 : Nat) : Int), hwj, j + 1, ⟨⟨?_, rfl⟩, rfl, Store.le_refl _⟩, hjl, ?_⟩
        · repeat' first | exact trivial | exact rfl | refine And.intro ?_ ?_
        · show K.length - (j + 1) < K.length - j
          omega
      · exact ⟨⟨_, rfl, rfl, rfl⟩, .inl ⟨_, _, _, awake_spec S6, fun S7 b hS7 hb => ⟨rfl, _, rfl, hb⟩⟩⟩
end Go.Proofs.Ytdkdepibclhkmaa
