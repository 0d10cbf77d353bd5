/- law09: the reference's memory: with, join, wrong, Choose, know, add. -/
import Derived.Test.YtapblcfbmaikjaaGreatDoorGf
namespace Go.Proofs.YtapblcfbmaikjaaGreatDoor
open Go Go.Vc Go.Sort Go.RowKit Go.Maps
set_option maxRecDepth 100000
set_option maxHeartbeats 8000000

@[reducible] def shRg : Shape := .st (.pair (.st (.pair (.int .i64) (.pair (.int .u32) (.int .u32)))) .slice)
abbrev Gx := (Int × Int × Int) × Hd
def RgIs (S : Store) (y : Gx) (g : Li.Msg) : Prop := y.1 = g.w ∧ okW g.w ∧ DidIs S y.2 g.v
theorem RgIs.le {S S' : Store} (h : S.le S') {y g} (hx : RgIs S y g) : RgIs S' y g := ⟨hx.1, hx.2.1, hx.2.2.le h⟩
def RhIs (S : Store) (q : Hd) (l : List Li.Msg) : Prop := RowOf S shRg RgIs q l
theorem RhIs.le {S S' : Store} (h : S.le S') {q l} (hx : RhIs S q l) : RhIs S' q l := RowOf.le (fun _ _ h' => RgIs.le h h') h hx
structure RmIs (S : Store) (x : Mm) (m : Li.Mem) : Prop where
  vs : RowOf S .slice DidIs x.1 m.vs
  ms : RowOf S .slice RhIs x.2 m.ms
theorem RmIs.le {S S' : Store} (h : S.le S') {x m} (hx : RmIs S x m) : RmIs S' x m := ⟨RowOf.le (fun _ _ h' => DidIs.le h h') h hx.vs, RowOf.le (fun _ _ h' => RhIs.le h h') h hx.ms⟩
theorem rwith_spec (S : Store) (q : Hd) (v : List Nat) (hq : DidIs S q v) (hl : v.length ≤ 1000000) (a i : Nat) (ha : a < v.length) :
    Pure Tryz.prog 170 S [slV q, .int .i64 (a : Int), .int .i64 (i : Int)] (A := Hd) rSl (fun S' q' => DidIs S' q' (v.set a i)) := by
  obtain ⟨h1, h2, h3⟩ := hq
  obtain ⟨qp, qn, qc⟩ := q
  have h1 : qn = v.length := h1
  subst h1
  refine pure_vc agrees Tryz.func170 rfl rfl (fun S S' q hle h => h.le hle) ?_
  obtain ⟨V, hV⟩ : ∃ V : List Int, V = v.map fun i : Nat => (i : Int) := ⟨_, rfl⟩
  have hVl : V.length = v.length := by rw [hV, List.length_map]
  have hVa : V[a]? = some ((v[a] : Nat) : Int) := by rw [hV, List.getElem?_map, List.getElem?_eq_getElem ha]; rfl
  have h3 : RowRd S qp shI V := by rw [hV]; exact h3
  refine ⟨V, src_of hVl.symm h3, fun _ _ => trivial, by show (0 + V.length) * 8 ≤ 140737488355328; omega, ?_⟩
  refine ⟨Int.natCast_nonneg _, by show (a : Int) < ((V.length : Nat) : Int); omega, ((v[a] : Nat) : Int), ((i : Nat) : Int), by rw [Int.toNat_natCast]; exact hVa, trivial, rfl, Nat.le_refl 1, ?_⟩
  intro p5 c5 S5 hS5 hr5 hpf5
  have hr5 : RowRd S5 p5 shI (V.set a ((i : Nat) : Int)) := hr5
  have hpf : PForm p5 (V.set a ((i : Nat) : Int)).length c5 := hpf5.1
  have hc := pform_le hpf
  rw [List.length_set, hVl] at hc
  refine ⟨rfl, (p5, (V.set a ((i : Nat) : Int)).length, c5), rfl, ?_, ?_, ?_⟩
  · show (V.set a ((i : Nat) : Int)).length = (v.set a i).length
    rw [List.length_set, List.length_set, hVl]
  · rw [List.length_set]; exact hc
  · show RowRd S5 p5 shI ((v.set a i).map fun i : Nat => (i : Int))
    rw [List.map_set, ← hV]
    exact hr5
theorem rchoose_spec (S : Store) (n o : Nat) (hon : o < n) (hn : n ≤ 1000000) (c : Int) (hc : inI64 c) : Pure Tryz.prog 169 S [.int .i64 (n : Int), .int .i64 (o : Int), .int .i64 c] (A := Unit) (fun _ => rI (Li.pickI n o c : Nat)) (fun _ _ => True) := by
  refine pure_vc agrees Tryz.func169 rfl rfl (fun S S' q hle h => h) ?_
  refine offE (beq_eq_false_iff_ne.2 (show ¬ (n : Int) = 0 by omega)) ?_
  refine offE (decide_eq_false (show ¬ (o : Int) < 0 by omega)) ?_
  refine offE (decide_eq_false (show ¬ (o : Int) ≥ (n : Int) by omega)) ?_
  obtain ⟨k, hk⟩ : ∃ k : Nat, k = (max c 0).toNat % (n - o) := ⟨_, rfl⟩
  have hkl : k < n - o := by rw [hk]; exact Nat.mod_lt _ (by omega)
  have hpi : Li.pickI n o c = n - 1 - k := by unfold Li.pickI; rw [hk]
  have hc2 := hc.2
  have hc1 := hc.1
  by_cases h0 : c < 0
  · refine onE (decide_eq_true h0) ?_
    have htm : Int.tmod 0 (((n - o : Nat) : Int)) = (k : Int) := by rw [hk, show (max c 0).toNat = 0 by omega, Nat.zero_mod, Int.zero_tmod]; rfl
    refine ⟨((n - o : Nat) : Int), by rw [wrap_i64 (by omega) (by omega)]; omega, by omega, (k : Int), htm, ?_⟩
    refine ⟨((n - 1 : Nat) : Int), by rw [wrap_i64 (by omega) (by omega)]; omega, ?_⟩
    refine ⟨[], [], Nat, List.range' 28 7, fun j => [(9, rI j), (8, rI (n - 1 - j : Nat))], fun _ => [], fun _ => S, fun j => j ≤ k, fun j => k - j, ?_⟩
    refine And.intro (Exists.intro 0 (And.intro (And.intro (And.intro ?_ rfl) (And.intro rfl (Store.le_refl _))) (Nat.zero_le _))) ?_
    · repeat' first | exact trivial | exact rfl | refine And.intro ?_ ?_
    intro j hj
    have hj : j ≤ k := hj
    refine And.intro (fun h3 => ?_) (fun h3 => ?_)
    · have h3 : (j : Int) < (k : Int) := of_decide_eq_true h3
      refine ⟨((n - 1 - (j + 1) : Nat) : Int), by rw [wrap_i64 (by omega) (by omega)]; omega, ((j + 1 : Nat) : Int), wrap_i64 (by omega) (by omega), j + 1, ⟨⟨?_, rfl⟩, rfl, Store.le_refl _⟩, by show j + 1 ≤ _; omega, by show k - (j + 1) < k - j; omega⟩
      repeat' first | exact trivial | exact rfl | refine And.intro ?_ ?_
    · have h3 : ¬ (j : Int) < (k : Int) := of_decide_eq_false h3
      have hjk : j = k := by omega
      subst hjk
      refine ⟨rfl, (), ?_, trivial⟩
      rw [hpi]; rfl
  · refine offE (decide_eq_false h0) ?_
    have htm : Int.tmod c (((n - o : Nat) : Int)) = (k : Int) := by
      rw [Int.tmod_eq_emod_of_nonneg (by omega), hk, show (max c 0).toNat = c.toNat by omega, Int.natCast_emod]
      congr 1; omega
    refine ⟨((n - o : Nat) : Int), by rw [wrap_i64 (by omega) (by omega)]; omega, by omega, (k : Int), htm, ?_⟩
    refine ⟨((n - 1 : Nat) : Int), by rw [wrap_i64 (by omega) (by omega)]; omega, ?_⟩
    refine ⟨[], [], Nat, List.range' 28 7, fun j => [(9, rI j), (8, rI (n - 1 - j : Nat))], fun _ => [], fun _ => S, fun j => j ≤ k, fun j => k - j, ?_⟩
    refine And.intro (Exists.intro 0 (And.intro (And.intro (And.intro ?_ rfl) (And.intro rfl (Store.le_refl _))) (Nat.zero_le _))) ?_
    · repeat' first | exact trivial | exact rfl | refine And.intro ?_ ?_
    intro j hj
    have hj : j ≤ k := hj
    refine And.intro (fun h3 => ?_) (fun h3 => ?_)
    · have h3 : (j : Int) < (k : Int) := of_decide_eq_true h3
      refine ⟨((n - 1 - (j + 1) : Nat) : Int), by rw [wrap_i64 (by omega) (by omega)]; omega, ((j + 1 : Nat) : Int), wrap_i64 (by omega) (by omega), j + 1, ⟨⟨?_, rfl⟩, rfl, Store.le_refl _⟩, by show j + 1 ≤ _; omega, by show k - (j + 1) < k - j; omega⟩
      repeat' first | exact trivial | exact rfl | refine And.intro ?_ ?_
    · have h3 : ¬ (j : Int) < (k : Int) := of_decide_eq_false h3
      have hjk : j = k := by omega
      subst hjk
      refine ⟨rfl, (), ?_, trivial⟩
      rw [hpi]; rfl
theorem join_at' {v u : List Nat} (h : u.length = v.length) {i : Nat} (hi : i < v.length) : (Li.joinV v u)[i]? = some (max v[i] u[i]) := by
  unfold Li.joinV
  rw [List.getElem?_zipWith, List.getElem?_eq_getElem hi, List.getElem?_eq_getElem (by omega)]
/-- The first places joined. -/
def joinI (v u : List Nat) (i : Nat) : List Int := ((Li.joinV v u).take i ++ List.replicate (v.length - i) 0).map fun i : Nat => (i : Int)
theorem joinI_len {v u : List Nat} (h : u.length = v.length) {i : Nat} (hi : i ≤ v.length) : (joinI v u i).length = v.length := by
  unfold joinI
  rw [List.length_map, List.length_append, List.length_take, List.length_replicate, Li.join_len h.symm]; omega
theorem joinI_set {v u : List Nat} (h : u.length = v.length) {i : Nat} (hi : i < v.length) (m : Nat) : (joinI v u i).set i ((m : Nat) : Int) = ((Li.joinV v u).take i ++ m :: List.replicate (v.length - (i + 1)) 0).map fun i : Nat => (i : Int) := by
  unfold joinI
  have hl : ((Li.joinV v u).take i).length = i := by rw [List.length_take, Li.join_len h.symm]; omega
  have hr : v.length - i = (v.length - (i + 1)) + 1 := by omega
  rw [hr, List.replicate_succ, ← List.map_set, List.set_append_right _ _ (by omega), hl, Nat.sub_self, List.set_cons_zero]
theorem joinI_succ {v u : List Nat} (h : u.length = v.length) {i : Nat} (hi : i < v.length) (m : Nat) (hm : m = max v[i] u[i]) : (joinI v u i).set i ((m : Nat) : Int) = joinI v u (i + 1) := by
  rw [joinI_set h hi]
  unfold joinI
  rw [List.take_add_one, join_at' h hi, hm, List.append_assoc]; rfl
theorem rjoin_spec (S : Store) (q p : Hd) (v u : List Nat) (hq : DidIs S q v) (hp : DidIs S p u) (h : u.length = v.length) (hl : v.length ≤ 1000000) :
    Pure Tryz.prog 171 S [slV q, slV p] (A := Hd) rSl (fun S' q' => DidIs S' q' (Li.joinV v u)) := by
  obtain ⟨q1, q2, q3⟩ := hq
  obtain ⟨p1, p2, p3⟩ := hp
  obtain ⟨qp, qn, qc⟩ := q
  obtain ⟨pp, pn, pc⟩ := p
  have q1 : qn = v.length := q1
  have p1 : pn = u.length := p1
  subst q1 p1
  refine pure_vc agrees Tryz.func171 rfl rfl (fun S S' q hle h => h.le hle) ?_
  refine ⟨Int.natCast_nonneg _, Int.le_refl _, by show (8 : Int) * (v.length : Int) ≤ 140737488355328; omega, by show (v.length : Int) ≤ 140737488355328; omega, ?_⟩
  refine ⟨[], [], Nat, List.range' 10 29, fun i => [(6, rI i)], fun i => [.row shI 3 (joinI v u i)], fun _ => S, fun i => i ≤ v.length, fun i => v.length - i, ?_⟩
  refine And.intro (Exists.intro 0 (And.intro (And.intro (And.intro ?_ rfl) (And.intro ?_ (Store.le_refl _))) (Nat.zero_le _))) ?_
  · repeat' first | exact trivial | exact rfl | refine And.intro ?_ ?_
  · show [Res.row shI 3 (List.replicate v.length (0 : Int))] = [Res.row shI 3 (joinI v u 0)]
    have : joinI v u 0 = List.replicate v.length (0 : Int) := by unfold joinI; rw [List.take_zero, List.nil_append, Nat.sub_zero, List.map_replicate]; rfl
    rw [this]
  intro i hi
  have hi : i ≤ v.length := hi
  have hjl := joinI_len h hi
  refine And.intro (fun h1 => ?_) (fun h1 => ?_)
  · have h1 : (i : Int) < ((v.length : Nat) : Int) := of_decide_eq_true h1
    have hiv : i < v.length := by omega
    have hiu : i < u.length := by omega
    have h1u : (i : Int) < ((u.length : Nat) : Int) := by omega
    have gv : (v.map fun i : Nat => (i : Int))[i]? = some ((v[i] : Nat) : Int) := by rw [List.getElem?_map, List.getElem?_eq_getElem hiv]; rfl
    have gu : (u.map fun i : Nat => (i : Int))[i]? = some ((u[i] : Nat) : Int) := by rw [List.getElem?_map, List.getElem?_eq_getElem hiu]; rfl
    obtain ⟨b1, o1, e1, ok1, r1⟩ := row_at (sh := shI) q3 gv
    obtain ⟨b2, o2, e2, ok2, r2⟩ := row_at (sh := shI) p3 gu
    obtain ⟨x0, hx0⟩ : ∃ x0, (joinI v u i)[i]? = some x0 := ⟨_, List.getElem?_eq_getElem (by omega)⟩
    have hjll : (i : Int) < (((joinI v u i).length : Nat) : Int) := by omega
    refine ⟨Int.natCast_nonneg _, h1, b1, o1, e1, ((v[i] : Nat) : Int), ok1, r1, Int.natCast_nonneg _, hjll, x0, ((v[i] : Nat) : Int), hx0, trivial, rfl, Nat.le_refl 1, ?_⟩
    refine ⟨or171_6, [], oF171_6, by kernel_rfl, ?_⟩
    refine ⟨Int.natCast_nonneg _, h1u, b2, o2, e2, ((u[i] : Nat) : Int), ok2, r2, Int.natCast_nonneg _, h1, b1, o1, e1, ((v[i] : Nat) : Int), ok1, r1, ?_⟩
    by_cases hgt : ((u[i] : Nat) : Int) > ((v[i] : Nat) : Int)
    · refine onE (decide_eq_true hgt) ?_
      have hx1 : ((joinI v u i).set i ((v[i] : Nat) : Int))[i]? = some ((v[i] : Nat) : Int) := List.getElem?_set_self (by omega)
      refine ⟨Int.natCast_nonneg _, h1u, b2, o2, e2, ((u[i] : Nat) : Int), ok2, r2, Int.natCast_nonneg _, by show (i : Int) < ((((joinI v u i).set i ((v[i] : Nat) : Int)).length : Nat) : Int); rw [List.length_set]; exact hjll, ((v[i] : Nat) : Int), ((u[i] : Nat) : Int), hx1, trivial, rfl, Nat.le_refl 1, ?_⟩
      refine ⟨((i + 1 : Nat) : Int), wrap_i64 (by omega) (by omega), i + 1, ⟨⟨?_, rfl⟩, ?_, Store.le_refl _⟩, by show i + 1 ≤ _; omega, by show v.length - (i + 1) < v.length - i; omega⟩
      · repeat' first | exact trivial | exact rfl | refine And.intro ?_ ?_
      · show [Res.row shI 3 (((joinI v u i).set i ((v[i] : Nat) : Int)).set i ((u[i] : Nat) : Int))] = [Res.row shI 3 (joinI v u (i + 1))]
        rw [List.set_set, joinI_succ h hiv u[i] (by omega)]
    · refine offE (decide_eq_false hgt) ?_
      refine ⟨((i + 1 : Nat) : Int), wrap_i64 (by omega) (by omega), i + 1, ⟨⟨?_, rfl⟩, ?_, Store.le_refl _⟩, by show i + 1 ≤ _; omega, by show v.length - (i + 1) < v.length - i; omega⟩
      · repeat' first | exact trivial | exact rfl | refine And.intro ?_ ?_
      · show [Res.row shI 3 ((joinI v u i).set i ((v[i] : Nat) : Int))] = [Res.row shI 3 (joinI v u (i + 1))]
        rw [joinI_succ h hiv v[i] (by omega)]
  · have h1 : ¬ (i : Int) < ((v.length : Nat) : Int) := of_decide_eq_false h1
    have hiv : i = v.length := by omega
    subst hiv
    intro p5 c5 S5 hS5 hr5 hpf5
    have hJ : joinI v u v.length = (Li.joinV v u).map fun i : Nat => (i : Int) := by
      unfold joinI
      rw [Nat.sub_self, List.replicate_zero, List.append_nil, ← Li.join_len h.symm, List.take_length]
    have hr5 : RowRd S5 p5 shI (joinI v u v.length) := hr5
    have hpf : PForm p5 (joinI v u v.length).length c5 := hpf5.1
    have hc := pform_le hpf
    refine ⟨rfl, (p5, (joinI v u v.length).length, c5), rfl, ?_, ?_, ?_⟩
    · show (joinI v u v.length).length = _
      rw [hjl, Li.join_len h.symm]
    · rw [hjl] at hc; rw [Li.join_len h.symm]; exact hc
    · rw [hJ] at hr5; exact hr5
theorem rwrong_spec (S : Store) (x : Mm) (m : Li.Mem) (hx : RmIs S x m) (k a : Nat) (hk : k < m.vs.length) (ha : a < m.ms.length) : Pure Tryz.prog 168 S [vMem x, .int .i64 ((k : Int) + 1), .int .i64 (a : Int)] (A := Unit) (fun _ => rI 0) (fun _ _ => True) := by
  have h1 := hx.vs.len
  have h2 := hx.ms.len
  obtain ⟨⟨p, n, c⟩, ⟨p2, n2, c2⟩⟩ := x
  have h1 : n = m.vs.length := h1
  have h2 : n2 = m.ms.length := h2
  subst h1 h2
  refine pure_vc agrees Tryz.func168 rfl rfl (fun S S' q hle h => h) ?_
  refine offE (decide_eq_false (show ¬ (k : Int) + 1 < 1 by omega)) ?_
  refine offE (decide_eq_false (show ¬ (k : Int) + 1 > ((m.vs.length : Nat) : Int) by omega)) ?_
  refine offE (decide_eq_false (show ¬ (a : Int) < 0 by omega)) ?_
  exact offE (decide_eq_false (show ¬ (a : Int) ≥ ((m.ms.length : Nat) : Int) by omega)) ⟨rfl, (), rfl, trivial⟩
theorem rowof_set {S : Store} {sh : Shape} {β : Type} {R : Store → sh.T → β → Prop} {L : List (sh.T × β)} {k : Nat} {x : sh.T} {y : β} {p : Option Addr} {c : Nat} (hK : ∀ z ∈ L, R S z.1 z.2) (hx : R S x y) (hp : PForm p ((L.map (·.1)).set k x).length c) (hr : RowRd S p sh ((L.map (·.1)).set k x)) : RowOf S sh R (p, ((L.map (·.1)).set k x).length, c) ((L.map (·.2)).set k y) := by
  refine ⟨L.set k (x, y), by rw [List.map_set], by show ((L.map (·.1)).set k x).length = _; rw [List.length_set, List.length_set, List.length_map], pform_le hp, by rw [List.map_set]; exact hr, fun z hz => ?_⟩
  rcases List.mem_or_eq_of_mem_set hz with hz | hz
  · exact hK z hz
  · rw [hz]; exact hx
theorem rknow_spec (S : Store) (x : Mm) (m : Li.Mem) (hx : RmIs S x m) (hn : m.vs.length ≤ 1000) (k : Nat) (hk : k < m.vs.length) (q : Hd) (v : List Nat) (hq : DidIs S q v) : Pure Tryz.prog 172 S [vMem x, .int .i64 ((k : Int) + 1), slV q] (A := Mm) rMem (fun S' y => RmIs S' y ⟨m.ms, m.vs.set k v⟩) := by
  obtain ⟨L, hL1, hL2, hL3, hL4, hL5⟩ := hx.vs.data
  have hms := hx.ms
  obtain ⟨⟨p, n, c⟩, ⟨p2, n2, c2⟩⟩ := x
  have hL3 : n = m.vs.length := hL3
  obtain ⟨xs, hxs⟩ : ∃ xs : List Hd, xs = L.map (·.1) := ⟨_, rfl⟩
  have hxl : xs.length = m.vs.length := by rw [hxs, List.length_map]; exact hL2
  have hR4 : RowRd S p .slice xs := by rw [hxs]; exact hL4
  subst hL3
  have hkx : k < xs.length := by omega
  have hget : xs[k]? = some xs[k] := List.getElem?_eq_getElem hkx
  refine pure_vc agrees Tryz.func172 rfl rfl (fun S S' q hle h => h.le hle) ?_
  refine ⟨xs, src_of hxl.symm hR4, fun _ _ => trivial, by show (0 + xs.length) * 24 ≤ 140737488355328; omega, ?_⟩
  refine ⟨(k : Int), by rw [wrap_i64 (by omega) (by omega)]; omega, Int.natCast_nonneg _, by show (k : Int) < ((xs.length : Nat) : Int); omega, xs[k], q, by rw [Int.toNat_natCast]; exact hget, trivial, rfl, Nat.le_refl 1, ?_⟩
  intro p5 c5 S5 hS5 hr5 hpf5
  refine ⟨rfl, ((p5, (xs.set k q).length, c5), (p2, n2, c2)), rfl, ?_, RowOf.le (fun _ _ h' => RhIs.le hS5 h') hS5 hms⟩
  rw [← hL1]
  subst hxs
  exact rowof_set (fun z hz => (hL5 z hz).le hS5) (hq.le hS5) hpf5.1 hr5
theorem radd_spec (S : Store) (x : Mm) (m : Li.Mem) (hx : RmIs S x m) (hn : m.ms.length ≤ 1000) (a : Nat) (ha : a < m.ms.length) (hb : (Li.hist m a).length ≤ 100000) (y : Gx) (g : Li.Msg) (hy : RgIs S y g) : Pure Tryz.prog 173 S [vMem x, .int .i64 (a : Int), .agg #[.int .i64 y.1.1, .int .u32 y.1.2.1, .int .u32 y.1.2.2, slV y.2]] (A := Mm) rMem (fun S' y => RmIs S' y ⟨m.ms.set a (Li.hist m a ++ [g]), m.vs⟩) := by
  obtain ⟨L, hL1, hL2, hL3, hL4, hL5⟩ := hx.ms.data
  have hvs := hx.vs
  obtain ⟨⟨p, n, c⟩, ⟨p2, n2, c2⟩⟩ := x
  have hL3 : n2 = m.ms.length := hL3
  obtain ⟨xs, hxs⟩ : ∃ xs : List Hd, xs = L.map (·.1) := ⟨_, rfl⟩
  have hxl : xs.length = m.ms.length := by rw [hxs, List.length_map]; exact hL2
  have hR4 : RowRd S p2 .slice xs := by rw [hxs]; exact hL4
  subst hL3
  obtain ⟨⟨y1, y2, y3⟩, ⟨y4, y5, y6⟩⟩ := y
  obtain ⟨z, hz⟩ : ∃ z, L[a]? = some z := ⟨_, List.getElem?_eq_getElem (by omega)⟩
  obtain ⟨M, hM1, hM2, hM3, hM4, hM5⟩ := (hL5 z (List.mem_of_getElem? hz)).data
  obtain ⟨⟨hp, hn', hc⟩, h⟩ := z
  have hh : Li.hist m a = h := by unfold Li.hist; rw [List.getD_eq_getElem?_getD, ← hL1, List.getElem?_map, hz]; rfl
  have hM3 : hn' = h.length := hM3
  subst hM3
  have hxa : xs[a]? = some (hp, h.length, hc) := by rw [hxs, List.getElem?_map, hz]; rfl
  refine pure_vc agrees Tryz.func173 rfl rfl (fun S S' q hle h => h.le hle) ?_
  refine ⟨xs, src_of hxl.symm hR4, fun _ _ => trivial, by show (0 + xs.length) * 24 ≤ 140737488355328; omega, ?_⟩
  refine ⟨or173_2, [3, 4, 5], oF173_2, by kernel_rfl, ?_⟩
  obtain ⟨ys, hys⟩ : ∃ ys : List Gx, ys = M.map (·.1) := ⟨_, rfl⟩
  have hyl : ys.length = h.length := by rw [hys, List.length_map]; exact hM2
  have hR5 : RowRd S hp shRg ys := by rw [hys]; exact hM4
  have hhl : h.length ≤ 100000 := by rw [← hh]; exact hb
  have fin : ∀ (S5 S6 : Store) (p5 : Option Addr) (c5 : Nat) (p6 : Option Addr) (c6 : Nat), S.le S5 → RowRd S5 p5 shRg (ys ++ [((y1, y2, y3), (y4, y5, y6))]) → PForm p5 (ys ++ [((y1, y2, y3), (y4, y5, y6))]).length c5 → S5.le S6 → RowRd S6 p6 .slice (xs.set a (p5, (ys ++ [((y1, y2, y3), (y4, y5, y6))]).length, c5)) → PForm p6 (xs.set a (p5, (ys ++ [((y1, y2, y3), (y4, y5, y6))]).length, c5)).length c6 → RmIs S6 ((p, n, c), (p6, (xs.set a (p5, (ys ++ [((y1, y2, y3), (y4, y5, y6))]).length, c5)).length, c6)) ⟨m.ms.set a (Li.hist m a ++ [g]), m.vs⟩ := fun S5 S6 p5 c5 p6 c6 h5 r5 f5 h6 r6 f6 => by
    have h56 := Store.le_trans h5 h6
    refine ⟨RowOf.le (fun _ _ h' => DidIs.le h56 h') h56 hvs, ?_⟩
    show RowOf S6 .slice RhIs _ (m.ms.set a (Li.hist m a ++ [g]))
    rw [← hL1, hh]
    subst hxs
    refine rowof_set (fun z hz => (hL5 z hz).le h56) ?_ f6 r6
    refine ⟨M ++ [(((y1, y2, y3), (y4, y5, y6)), g)], by rw [List.map_append, hM1]; rfl, ?_, pform_le f5, ?_, fun z hz => ?_⟩
    · show (ys ++ [((y1, y2, y3), (y4, y5, y6))]).length = _
      rw [hys, List.length_append, List.length_append, List.length_map]; rfl
    · rw [List.map_append, ← hys]; exact r5.le h6
    · rcases List.mem_append.1 hz with hz | hz
      · exact (hM5 z hz).le h56
      · simp only [List.mem_singleton] at hz
        rw [hz]; exact hy.le h56
  have a0 : (0 : Int) ≤ (a : Int) := Int.natCast_nonneg _
  have al : (a : Int) < ((([] ++ xs : List Hd).length : Nat) : Int) := by rw [List.nil_append]; omega
  have hxa2 : ([] ++ xs : List Hd)[(a : Int).toNat]? = some (hp, h.length, hc) := by rw [List.nil_append, Int.toNat_natCast]; exact hxa
  repeat' (first
    | exact trivial
    | refine ⟨a0, al, ?_⟩
    | refine ⟨((hp, h.length, hc) : Hd), hxa2, ?_⟩
    | refine ⟨ys, src_of hyl.symm hR5, fun _ _ => ⟨⟨trivial, trivial, trivial⟩, trivial⟩, (by show (0 + ys.length) * 40 ≤ 140737488355328; omega), ?_⟩
    | refine ⟨[(((y1, y2, y3), (y4, y5, y6)) : Gx)], ⟨rfl, rfl⟩, fun _ _ => ⟨⟨trivial, trivial, trivial⟩, trivial⟩, (by show (ys.length + 1) * 40 ≤ 140737488355328; omega), ?_⟩
    | refine And.intro ?_ ?_)
  all_goals
    intro p5 c5 S5 hS5 hr5 hpf5
    refine ⟨((hp, h.length, hc) : Hd), ((p5, (ys ++ [((y1, y2, y3), (y4, y5, y6))] : List Gx).length, c5) : Hd), hxa2, trivial, rfl, Nat.le_refl 1, ?_⟩
    intro p6 c6 S6 hS6 hr6 hpf6
    exact ⟨rfl, _, rfl, fin S5 S6 p5 c5 p6 c6 hS5 hr5 hpf5.1 hS6 hr6 hpf6.1⟩
end Go.Proofs.YtapblcfbmaikjaaGreatDoor
