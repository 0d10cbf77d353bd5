/- law09: slices.Grow, slices.Concat; Check. -/
import Derived.Test.YtapblcfbmaikjaaGreatDoorFw
import Derived.Test.YtapblcfbmaikjaaGreatDoorSj
namespace Go.Proofs.YtapblcfbmaikjaaGreatDoor
open Go Go.Vc Go.Sort Go.RowKit Go.Maps
set_option maxRecDepth 100000
set_option maxHeartbeats 8000000

theorem grow_spec (S : Store) (n : Nat) (hn : n ≤ 1000) : SpecN Tryz.prog 45 S [.slice none 0 0, .int .i64 (n : Int)] (A := Unit) (fun _ => .c (.ref 0)) (fun _ => [.row shA 37 []]) (fun _ _ => True) := by
  intro w hS
  obtain ⟨i0, hi0, hs, hb, vs, hvs, hvl, -, hz⟩ := tyfit37.info
  have hs : i0.size = 8 := hs
  have hb : i0.bytes = 48 := hb
  have hvl : vs.length = 8 := hvl
  have fin : ∀ (v : Value) (w' : World), w'.ownsRow w.heap.size 37 8 v 0 [] → (∀ b, b < w.heap.size → w'.heap[b]? = w.heap[b]?) → w.heap.size ≤ w'.heap.size → w'.os = w.os → w'.tape = w.tape → w'.output = w.output → v.oneCell' = true →
      ∃ (v' : Value) (x : Unit) (S' : Store) (ρ' : List Value), Ending.returned v = Ending.returned v' ∧ (SV.c (.ref 0)).rel ρ' v' ∧ Stab w ⟨fun _ => False, S, []⟩ ρ' [.row shA 37 []] S' w' ∧ S.le S' ∧ (∀ b, b < w.heap.size → (∀ i, S'.c b i = S.c b i) ∧ S'.o b = S.o b) ∧ True := fun v w' hown hold hsz hos hta hou hone => by
    have hst := (Stab.none hS).addG hold hsz hos hta hou (.row shA 37 []) v (fun b hbb => by
      rcases hown.2 with ⟨rfl, -⟩ | ⟨g, cap, cur, rfl, hg, hc, -⟩
      · cases hbb
      · simp only [Res.foot, blk, Option.some.injEq] at hbb
        subst hbb
        exact ⟨hg, (Array.getElem?_eq_some_iff.1 hc).1⟩) ⟨⟨rfl, by
          rcases hown.2 with h2 | ⟨g, cap, cur, h3, hg, h4⟩
          · exact .inl h2
          · exact .inr ⟨g, cap, cur, h3, Nat.zero_le _, h4⟩⟩, fun x hx => by cases hx⟩
    exact ⟨v, (), S, [v], rfl, ⟨rfl, hone⟩, hst, Store.le_refl _, fun _ _ => ⟨fun _ => rfl, rfl⟩, trivial⟩
  by_cases h0 : n = 0
  · subst h0
    refine (Any8.slices_Grow_room Tryz.layGrow none 0 0 0 w (Nat.le_refl _) (by decide) (by decide) (Nat.le_refl _)).mono ?_
    rintro e w' ⟨rfl, rfl⟩
    exact fin _ _ ⟨rfl, .inl ⟨rfl, rfl⟩⟩ (fun _ _ => rfl) (Nat.le_refl _) rfl rfl rfl rfl
  · refine (Any8.slices_Grow_grow Tryz.layGrow i0 _ hi0 hz (by omega) none 0 0 n [] w (Nat.le_refl _) (by omega) (by rw [hb]; omega) (by omega) (by simp) (fun _ => rfl) (fun a h => by cases h)).mono ?_
    rintro e w' ⟨rfl, rfl⟩
    have hc1 := grownCap_ge w (0 + n) 0 (Tryz.layGrow_ren.t 25)
    have hc2 := grownCap_le_maxLen w (0 + n) 0 (Tryz.layGrow_ren.t 25) (by unfold maxLen; omega)
    refine fin _ _ ⟨rfl, .inr ⟨w.heap.size, _, _, rfl, Nat.le_refl _, heap_alloc_new w.drew _, Nat.zero_le _, hc2, ?_, by simp⟩⟩ (fun b hb => heap_alloc_old w.drew _ hb) (by show w.heap.size ≤ (w.heap.push _).size; rw [Array.size_push]; omega) rfl rfl rfl rfl
    have hcz : (mkVal ti37.sh.agg vs).cells.size = 8 := by
      show (Value.agg vs.toArray).cells.size = 8
      simp [Value.cells, hvl]
    simp only [Array.size_append, List.size_toArray, size_zeroCells, List.length_nil, hcz]
    omega
@[reducible] def axOf (a : Li.Act) : Ax := (a.op, a.loc, a.old, a.new)
theorem acts_row {S : Store} {q : Hd} {l : List Li.Act} (h : ActsIs S q l) : q.2.1 = l.length ∧ l.length ≤ q.2.2 ∧ RowRd S q.1 shA (l.map axOf) ∧ ∀ a ∈ l, okAct a := by
  obtain ⟨L, rfl, h2, h3, h4, h5⟩ := h
  have e : L.map (·.1) = (L.map (·.2)).map axOf := by rw [List.map_map]; exact List.map_congr_left fun z hz => (h5 z hz).1
  refine ⟨by rw [List.length_map]; exact h2, by rw [List.length_map, ← h2]; exact h3, by rw [← e]; exact h4, fun w hw => ?_⟩
  obtain ⟨z, hz, rfl⟩ := List.mem_map.1 hw
  exact (h5 z hz).2
theorem acts_of {S : Store} {p : Option Addr} {c n : Nat} {l : List Li.Act} (hn : n = l.length) (hc : n ≤ c) (hr : RowRd S p shA (l.map axOf)) (hok : ∀ a ∈ l, okAct a) : ActsIs S (p, n, c) l := by
  subst hn
  exact ⟨l.map fun a => (axOf a, a), by rw [List.map_map]; exact List.map_id l, by show l.length = _; rw [List.length_map], hc, by rw [List.map_map]; exact hr, fun z hz => by obtain ⟨a, ha, rfl⟩ := List.mem_map.1 hz; exact ⟨rfl, hok a ha⟩⟩
def sizeN (T : List (List Li.Act)) (i : Nat) : Nat := ((T.take i).map List.length).sum
theorem sizeN_succ {T : List (List Li.Act)} {i : Nat} {l : List Li.Act} (h : T[i]? = some l) : sizeN T (i + 1) = sizeN T i + l.length := by
  unfold sizeN; rw [List.take_add_one, h, List.map_append, List.sum_append]; simp
theorem sizeN_all (T : List (List Li.Act)) : sizeN T T.length = Li.sizeT T := by unfold sizeN Li.sizeT; rw [List.take_length]
theorem flat_len (T : List (List Li.Act)) : T.flatten.length = Li.sizeT T := by unfold Li.sizeT; exact List.length_flatten
theorem sizeN_le (T : List (List Li.Act)) (i : Nat) (h8 : ∀ l ∈ T, l.length ≤ 8) (hT : T.length ≤ 8) : sizeN T i ≤ 64 := by
  unfold sizeN
  have : ∀ l : List (List Li.Act), (∀ x ∈ l, x.length ≤ 8) → (l.map List.length).sum ≤ 8 * l.length := fun l => by
    induction l with
    | nil => intro _; simp
    | cons x l ih =>
      intro h
      have := ih fun y hy => h y (List.mem_cons_of_mem _ hy)
      have h0 := h x (List.mem_cons_self ..)
      rw [List.map_cons, List.sum_cons, List.length_cons]; omega
  have h1 := this (T.take i) fun x hx => h8 x (List.mem_of_mem_take hx)
  rw [List.length_take] at h1
  omega
theorem concat_spec (S : Store) (q : Hd) (T : List (List Li.Act)) (hq : ThIs S q T) (hT : T.length ≤ 8) (h8 : ∀ l ∈ T, l.length ≤ 8) :
    Pure Tryz.prog 26 S [slV q] (A := Hd) rSl (fun S' q' => ActsIs S' q' T.flatten) := by
  have hl := hq.len
  obtain ⟨p, n, c⟩ := q
  have hl : n = T.length := hl
  subst hl
  refine pure_vc agrees Tryz.func26 rfl rfl (fun S S' q hle h => h.le hle) ?_
  refine ⟨[], [], Nat, [5] ++ List.range' 12 11, fun i => [(3, rI (sizeN T i : Nat)), (11, rI i)], fun _ => [], fun _ => S, fun i => i ≤ T.length, fun i => T.length - i, ?_⟩
  refine And.intro (Exists.intro 0 (And.intro (And.intro (And.intro ?_ rfl) (And.intro rfl (Store.le_refl _))) (Nat.zero_le _))) ?_
  · repeat' first | exact trivial | exact rfl | refine And.intro ?_ ?_
  intro i hi
  have hi : i ≤ T.length := hi
  refine And.intro (fun h1 => ?_) (fun h1 => ?_)
  · have h1 : (i : Int) < ((T.length : Nat) : Int) := of_decide_eq_true h1
    obtain ⟨⟨qp, qn, qc⟩, y, b, o, hy, hqy, hp, hok, hrd⟩ := hq.at (i := i) (by omega)
    have hql : qn = y.length := hqy.len
    subst hql
    have hs := sizeN_succ hy
    have hb1 := sizeN_le T (i + 1) h8 hT
    have wz : IntKind.i64.wrap (((sizeN T i : Nat) : Int) + ((y.length : Nat) : Int)) = ((sizeN T (i + 1) : Nat) : Int) := by rw [wrap_i64 (by omega) (by omega)]; omega
    refine ⟨Int.natCast_nonneg _, h1, b, o, hp, ((qp, y.length, qc) : Hd), hok, hrd, ((sizeN T (i + 1) : Nat) : Int), wz, offE (decide_eq_false (show ¬ ((sizeN T (i + 1) : Nat) : Int) < 0 by omega)) ?_⟩
    refine ⟨((i + 1 : Nat) : Int), wrap_i64 (by omega) (by omega), i + 1, ⟨⟨?_, rfl⟩, rfl, Store.le_refl _⟩, by show i + 1 ≤ _; omega, by show T.length - (i + 1) < T.length - i; omega⟩
    repeat' first | exact trivial | exact rfl | refine And.intro ?_ ?_
  have h1 : ¬ (i : Int) < ((T.length : Nat) : Int) := of_decide_eq_false h1
  have hil : i = T.length := by omega
  subst hil
  refine ⟨⟨_, rfl, rfl, rfl⟩, .inr (.inr (.inr (.inr (.inl ⟨_, _, _, _, grow_spec S (sizeN T T.length) (by have := sizeN_le T T.length h8 hT; omega), fun S1 _ hS1 _ => ?_⟩))))⟩
  refine ⟨[], [], Nat, [24, 8] ++ List.range' 28 8, fun i => [(27, rI i)], fun i => [.row shA 37 ((T.take i).flatten.map axOf)], fun _ => S1, fun i => i ≤ T.length, fun i => T.length - i, ?_⟩
  refine And.intro (Exists.intro 0 (And.intro (And.intro (And.intro ?_ rfl) (And.intro rfl (Store.le_refl _))) (Nat.zero_le _))) ?_
  · repeat' first | exact trivial | exact rfl | refine And.intro ?_ ?_
  intro i hi
  have hi : i ≤ T.length := hi
  refine And.intro (fun h1 => ?_) (fun h1 => ?_)
  · have h1 : (i : Int) < ((T.length : Nat) : Int) := of_decide_eq_true h1
    obtain ⟨⟨qp, qn, qc⟩, y, b, o, hy, hqy, hp, hok, hrd⟩ := (hq.le hS1).at (i := i) (by omega)
    obtain ⟨hql, hqc, hqr, hqo⟩ := acts_row hqy
    have hql : qn = y.length := hql
    subst hql
    have hs := sizeN_succ hy
    have hb1 := sizeN_le T (i + 1) h8 hT
    have hfl : (T.take i).flatten.length = sizeN T i := by unfold sizeN; exact List.length_flatten
    have hnext : (T.take (i + 1)).flatten.map axOf = (T.take i).flatten.map axOf ++ y.map axOf := by
      rw [List.take_add_one, hy, List.flatten_append, List.map_append]; simp
    refine ⟨Int.natCast_nonneg _, h1, b, o, hp, ((qp, y.length, qc) : Hd), hok, hrd, ?_⟩
    refine ⟨y.map axOf, src_of (List.length_map ..).symm hqr, fun _ _ => ⟨trivial, trivial, ⟨trivial, trivial, trivial⟩, trivial, trivial, trivial⟩, by rw [List.length_map, List.length_map, hfl]; show (sizeN T i + y.length) * 48 ≤ 140737488355328; omega, ?_⟩
    refine ⟨((i + 1 : Nat) : Int), wrap_i64 (by omega) (by omega), i + 1, ⟨⟨?_, rfl⟩, ?_, Store.le_refl _⟩, by show i + 1 ≤ _; omega, by show T.length - (i + 1) < T.length - i; omega⟩
    · repeat' first | exact trivial | exact rfl | refine And.intro ?_ ?_
    · show [Res.row shA 37 _] = [Res.row shA 37 ((T.take (i + 1)).flatten.map axOf)]
      rw [hnext]
  have h1 : ¬ (i : Int) < ((T.length : Nat) : Int) := of_decide_eq_false h1
  have hil : i = T.length := by omega
  subst hil
  intro p5 c5 S5 hS5 hr5 hpf5
  have htk : T.take T.length = T := List.take_length
  refine ⟨rfl, (p5, ((T.take T.length).flatten.map axOf).length, c5), rfl, acts_of (by rw [htk, List.length_map]) (pform_le hpf5.1) (by rw [htk] at hr5; exact hr5) fun a ha => ?_⟩
  obtain ⟨l, hl, hal⟩ := List.mem_flatten.1 ha
  exact hq.small hl hal
theorem checkL_hit {n : Nat} : ∀ {l : List Li.Act} {i : Nat} {a : Li.Act}, l[i]? = some a → (∀ x ∈ l.take i, Li.checkA n x = 0) → Li.checkA n a ≠ 0 → Li.checkL n l = Li.checkA n a
  | [], _, _, h, _, _ => by simp at h
  | b :: l, 0, a, h, _, hn => by
    simp only [List.getElem?_cons_zero, Option.some.injEq] at h
    subst h
    unfold Li.checkL; rw [if_pos hn]
  | b :: l, i + 1, a, h, ht, hn => by
    have h0 := ht b (by simp)
    unfold Li.checkL
    rw [if_neg (fun q => q h0)]
    exact checkL_hit (by simpa using h) (fun x hx => ht x (by simp [hx])) hn
theorem checkL_zero {n : Nat} {l : List Li.Act} (h : ∀ x ∈ l, Li.checkA n x = 0) : Li.checkL n l = 0 := Li.checkL_ok.2 fun a ha => Li.checkA_ok.1 (h a ha)
theorem take_more {α : Type} {l : List α} {i : Nat} {a : α} {P : α → Prop} (h : l[i]? = some a) (ht : ∀ x ∈ l.take i, P x) (ha : P a) : ∀ x ∈ l.take (i + 1), P x := fun x hx => by
  rw [List.take_add_one, h] at hx
  rcases List.mem_append.1 hx with hx | hx
  · exact ht x hx
  · simp at hx; subst hx; exact ha
theorem ocheck_spec (S : Store) (x : Tz) (first : List Li.Wd) (T : List (List Li.Act)) (hx : TestIs S x first T) (hn8 : first.length ≤ 8) (hT : T.length ≤ 8) (h8 : ∀ l ∈ T, l.length ≤ 8) :
    Pure Tryz.prog 11 S [vT x] (A := Unit) (fun _ => rI (Li.checkT first T)) (fun _ _ => True) := by
  have hfl := hx.f.len
  have htl := hx.t.len
  have hth := hx.t
  have hcon := concat_spec S x.2 T hth hT h8
  obtain ⟨⟨fp, fn, fc⟩, ⟨p, n, c⟩⟩ := x
  have hfl : fn = first.length := hfl
  have htl : n = T.length := htl
  subst hfl htl
  refine pure_vc agrees Tryz.func11 rfl rfl (fun S S' q hle h => h) ?_
  have e19 : (first.length < 1 ∨ 4 < first.length ∨ T.length < 1 ∨ 4 < T.length) → rI (Li.checkT first T) = rI 19 := fun h => by unfold Li.checkT; rw [if_pos h]
  by_cases g1 : ((first.length : Nat) : Int) < 1
  · refine onE (decide_eq_true g1) ?_
    repeat refine onT ?_
    exact ⟨rfl, (), e19 (by omega), trivial⟩
  refine offE (decide_eq_false g1) ?_
  by_cases g2 : ((first.length : Nat) : Int) > 4
  · refine onE (decide_eq_true g2) ?_
    repeat refine onT ?_
    exact ⟨rfl, (), e19 (by omega), trivial⟩
  refine offE (decide_eq_false g2) ?_
  by_cases g3 : ((T.length : Nat) : Int) < 1
  · refine onE (decide_eq_true g3) ?_
    repeat refine onT ?_
    exact ⟨rfl, (), e19 (by omega), trivial⟩
  refine offE (decide_eq_false g3) ?_
  by_cases g4 : ((T.length : Nat) : Int) > 4
  · refine onE (decide_eq_true g4) ?_
    repeat refine onT ?_
    exact ⟨rfl, (), e19 (by omega), trivial⟩
  refine offE (decide_eq_false g4) ?_
  have c2 : Li.checkT first T = if 6 < Li.sizeT T then 15 else Li.checkL first.length T.flatten := by unfold Li.checkT; rw [if_neg (by omega)]
  rw [c2]
  refine ⟨[], [], Nat, [5] ++ List.range' 34 8, fun i => [(3, rI (sizeN T i : Nat)), (33, rI i)], fun _ => [.box [.v (.slice fp first.length fc), .v (.slice p T.length c)]], fun _ => S, fun i => i ≤ T.length, fun i => T.length - i, ?_⟩
  refine And.intro (Exists.intro 0 (And.intro (And.intro (And.intro ?_ rfl) (And.intro rfl (Store.le_refl _))) (Nat.zero_le _))) ?_
  · repeat' first | exact trivial | exact rfl | refine And.intro ?_ ?_
  intro i hi
  have hi : i ≤ T.length := hi
  refine And.intro (fun h1 => ?_) (fun h1 => ?_)
  · have h1 : (i : Int) < ((T.length : Nat) : Int) := of_decide_eq_true h1
    obtain ⟨⟨qp, qn, qc⟩, y, b, o, hy, hqy, hp, hok, hrd⟩ := hth.at (i := i) (by omega)
    have hql : qn = y.length := hqy.len
    subst hql
    have hs := sizeN_succ hy
    have hb1 := sizeN_le T (i + 1) h8 hT
    have wz : IntKind.i64.wrap (((sizeN T i : Nat) : Int) + ((y.length : Nat) : Int)) = ((sizeN T (i + 1) : Nat) : Int) := by rw [wrap_i64 (by omega) (by omega)]; omega
    refine ⟨Int.natCast_nonneg _, h1, b, o, hp, ((qp, y.length, qc) : Hd), hok, hrd, ((sizeN T (i + 1) : Nat) : Int), wz, ?_⟩
    refine ⟨((i + 1 : Nat) : Int), wrap_i64 (by omega) (by omega), i + 1, ⟨⟨?_, rfl⟩, rfl, Store.le_refl _⟩, by show i + 1 ≤ _; omega, by show T.length - (i + 1) < T.length - i; omega⟩
    repeat' first | exact trivial | exact rfl | refine And.intro ?_ ?_
  have h1 : ¬ (i : Int) < ((T.length : Nat) : Int) := of_decide_eq_false h1
  have hil : i = T.length := by omega
  subst hil
  have hsa := sizeN_all T
  by_cases g5 : ((sizeN T T.length : Nat) : Int) > 6
  · refine onE (decide_eq_true g5) ⟨rfl, (), ?_, trivial⟩
    rw [if_pos (by omega)]
    rfl
  refine offE (decide_eq_false g5) ?_
  refine ⟨⟨_, rfl, rfl, rfl⟩, .inl ⟨_, _, _, hcon, fun S1 q hS1 hq => ?_⟩⟩
  have hck : (if 6 < Li.sizeT T then 15 else Li.checkL first.length T.flatten) = Li.checkL first.length T.flatten := if_neg (by omega)
  have hfl := flat_len T
  obtain ⟨A, hA⟩ : ∃ A, A = T.flatten := ⟨_, rfl⟩
  rw [← hA] at hq hck hfl
  obtain ⟨hql, hqc, hqr, hqo⟩ := acts_row hq
  obtain ⟨qp, qn, qc⟩ := q
  have hql : qn = A.length := hql
  subst hql
  have hqr : RowRd S1 qp shA (A.map axOf) := hqr
  refine ⟨[], [], Nat, [7] ++ List.range' 49 35, fun i => [(48, rI i)], fun _ => [.box [.v (.slice fp first.length fc), .v (.slice p T.length c)]], fun _ => S1, fun i => i ≤ A.length ∧ ∀ a ∈ A.take i, Li.checkA first.length a = 0, fun i => A.length - i, ?_⟩
  refine And.intro (Exists.intro 0 (And.intro (And.intro (And.intro ?_ rfl) (And.intro rfl (Store.le_refl _))) ⟨Nat.zero_le _, fun a ha => by simp at ha⟩)) ?_
  · repeat' first | exact trivial | exact rfl | refine And.intro ?_ ?_
  rintro i ⟨hi, hz⟩
  have hi : i ≤ A.length := hi
  refine And.intro (fun h1 => ?_) (fun h1 => ?_)
  · have h1 : (i : Int) < ((A.length : Nat) : Int) := of_decide_eq_true h1
    obtain ⟨a, ha⟩ : ∃ a, A[i]? = some a := ⟨_, List.getElem?_eq_getElem (by omega)⟩
    obtain ⟨b, o, hp, hok, hrd⟩ := row_at hqr (i := i) (x := axOf a) (by rw [List.getElem?_map, ha]; rfl)
    have hhit := checkL_hit (n := first.length) ha hz
    have hmore : Li.checkA first.length a = 0 → ∀ x ∈ A.take (i + 1), Li.checkA first.length x = 0 := fun h0 => take_more ha hz h0
    obtain ⟨ao, al, ⟨a1, a2, a3⟩, a4, a5, a6⟩ := a
    refine ⟨Int.natCast_nonneg _, h1, b, o, hp, (ao, al, (a1, a2, a3), a4, a5, a6), hok, hrd, ?_⟩
    have bad2 : (ao < 0 ∨ 8 < ao) → rI (if 6 < Li.sizeT T then 15 else Li.checkL first.length T.flatten) = rI 2 := fun h => by
      have e : Li.checkA first.length ⟨ao, al, (a1, a2, a3), a4, a5, a6⟩ = 2 := by unfold Li.checkA; rw [if_pos h]
      rw [← hA, hck, hhit (by rw [e]; decide), e]
    by_cases k1 : ao < 0
    · refine onE (decide_eq_true k1) ?_
      repeat refine onT ?_
      exact ⟨rfl, (), bad2 (.inl k1), trivial⟩
    refine offE (decide_eq_false k1) ?_
    by_cases k2 : ao > 8
    · refine onE (decide_eq_true k2) ?_
      repeat refine onT ?_
      exact ⟨rfl, (), bad2 (.inr k2), trivial⟩
    refine offE (decide_eq_false k2) ?_
    have bad1 : ao ≠ 0 → ao ≠ 8 → (al < 0 ∨ ((first.length : Nat) : Int) ≤ al) → rI (if 6 < Li.sizeT T then 15 else Li.checkL first.length T.flatten) = rI 1 := fun h0 h8 h => by
      have e : Li.checkA first.length ⟨ao, al, (a1, a2, a3), a4, a5, a6⟩ = 1 := by
        unfold Li.checkA
        rw [if_neg (by show ¬ (ao < 0 ∨ 8 < ao); omega), if_pos ⟨h0, h8, h⟩]
      rw [← hA, hck, hhit (by rw [e]; decide), e]
    have good : (ao = 0 ∨ ao = 8 ∨ (0 ≤ al ∧ al < ((first.length : Nat) : Int))) → Li.checkA first.length ⟨ao, al, (a1, a2, a3), a4, a5, a6⟩ = 0 := fun h => by
      unfold Li.checkA
      rw [if_neg (by show ¬ (ao < 0 ∨ 8 < ao); omega), if_neg (by show ¬ (ao ≠ 0 ∧ ao ≠ 8 ∧ (al < 0 ∨ ((first.length : Nat) : Int) ≤ al)); omega)]
    by_cases k3 : ao = 0
    · refine offE (bne_eq_false_iff_eq.2 k3) ?_
      repeat refine onF ?_
      refine ⟨((i + 1 : Nat) : Int), wrap_i64 (by omega) (by omega), i + 1, ⟨⟨?_, rfl⟩, rfl, Store.le_refl _⟩, ⟨by show i + 1 ≤ _; omega, hmore (good (.inl k3))⟩, by show A.length - (i + 1) < A.length - i; omega⟩
      repeat' first | exact trivial | exact rfl | refine And.intro ?_ ?_
    refine onE (bne_iff_ne.2 k3) ?_
    by_cases k4 : ao = 8
    · refine offE (bne_eq_false_iff_eq.2 k4) ?_
      repeat refine onF ?_
      refine ⟨((i + 1 : Nat) : Int), wrap_i64 (by omega) (by omega), i + 1, ⟨⟨?_, rfl⟩, rfl, Store.le_refl _⟩, ⟨by show i + 1 ≤ _; omega, hmore (good (.inr (.inl k4)))⟩, by show A.length - (i + 1) < A.length - i; omega⟩
      repeat' first | exact trivial | exact rfl | refine And.intro ?_ ?_
    refine onE (bne_iff_ne.2 k4) ?_
    by_cases k5 : al < 0
    · refine onE (decide_eq_true k5) ?_
      repeat refine onT ?_
      exact ⟨rfl, (), bad1 k3 k4 (.inl k5), trivial⟩
    refine offE (decide_eq_false k5) ?_
    by_cases k6 : al ≥ ((first.length : Nat) : Int)
    · refine onE (decide_eq_true k6) ?_
      repeat refine onT ?_
      exact ⟨rfl, (), bad1 k3 k4 (.inr k6), trivial⟩
    refine offE (decide_eq_false k6) ?_
    repeat refine onF ?_
    refine ⟨((i + 1 : Nat) : Int), wrap_i64 (by omega) (by omega), i + 1, ⟨⟨?_, rfl⟩, rfl, Store.le_refl _⟩, ⟨by show i + 1 ≤ _; omega, hmore (good (.inr (.inr ⟨by omega, by omega⟩)))⟩, by show A.length - (i + 1) < A.length - i; omega⟩
    repeat' first | exact trivial | exact rfl | refine And.intro ?_ ?_
  have h1 : ¬ (i : Int) < ((A.length : Nat) : Int) := of_decide_eq_false h1
  have hil : i = A.length := by omega
  subst hil
  rw [List.take_length] at hz
  refine ⟨rfl, (), ?_, trivial⟩
  show rI (if 6 < Li.sizeT T then 15 else Li.checkL first.length T.flatten) = rI 0
  rw [← hA, hck, checkL_zero hz]
end Go.Proofs.YtapblcfbmaikjaaGreatDoor
