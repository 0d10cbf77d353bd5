/- law57: the reference's operations. -/
import Derived.Test.YtpeehenohdlfdaaGreatDoorFi
namespace Go.Proofs.YtpeehenohdlfdaaGreatDoor
open Go Go.Vc Go.Sort
set_option maxRecDepth 100000
set_option maxHeartbeats 4000000

theorem take_ev {l : List Rc.Ev} {i : Nat} {e : Rc.Ev} (h : l[i]? = some e) : l.take (i + 1) = l.take i ++ [e] := by rw [List.take_add_one, h]; rfl
theorem open_step {l : List Rc.Ev} {i : Nat} {e : Rc.Ev} (h : l[i]? = some e) (t : Int) : Rc.openR (l.take (i + 1)) t = Rc.stepO t i e (Rc.openR (l.take i) t) := by
  rw [take_ev h, Rc.openR_snoc, List.length_take, Nat.min_eq_left (Nat.le_of_lt (Rc.get_lt h))]
theorem last_step {l : List Rc.Ev} {i : Nat} {e : Rc.Ev} (h : l[i]? = some e) (t : Int) : Rc.lastR (l.take (i + 1)) t = if e.k = 0 ∧ e.t = t then e.n else Rc.lastR (l.take i) t := by
  rw [take_ev h, Rc.lastR_snoc]
/-- An element of the events, and its fields. -/
theorem ev_at {S : Store} {q : Hd} {l : List Rc.Ev} (h : LIs S q l) {i : Nat} (hi : i < l.length) : ∃ (x : Ex) (e : Rc.Ev) (b o : Nat), l[i]? = some e ∧ EIs S x e ∧ q.1 = some ⟨b, o, none⟩ ∧ S.rd b (o + i * 7) (shE.enc x) := by
  obtain ⟨L, rfl, -, -, hr, hK⟩ := h
  rw [List.length_map] at hi
  obtain ⟨z, hz⟩ : ∃ z, L[i]? = some z := ⟨_, List.getElem?_eq_getElem hi⟩
  obtain ⟨b, o, hp, -, hrd⟩ := row_at hr (i := i) (x := z.1) (by rw [List.getElem?_map, hz]; rfl)
  exact ⟨z.1, z.2, b, o, by rw [List.getElem?_map, hz]; rfl, hK z (List.mem_of_getElem? hz), hp, hrd⟩
theorem open_spec (S : Store) (q : Hd) (l : List Rc.Ev) (hl : LIs S q l) (hn : l.length ≤ 1000000) (t : Int) : Pure Tryz.prog 72 S [slV q, .int .i64 t] (A := Unit) (fun _ => rI (Rc.openR l t)) (fun _ _ => True) := by
  have hq := li_len hl
  obtain ⟨p, n, c⟩ := q
  have hq : n = l.length := hq
  subst hq
  refine pure_vc agrees Tryz.func72 rfl rfl (fun S S' q hle h => h) ?_
  refine ⟨[], [], Nat, [5, 6] ++ List.range' 7 44, fun i => [(5, rI (Rc.openR (l.take i) t)), (6, rI i)], fun _ => [], fun _ => S, fun i => i ≤ l.length, fun i => l.length - i, ?_⟩
  refine And.intro (Exists.intro 0 (And.intro (And.intro (And.intro ?_ rfl) (And.intro rfl (Store.le_refl _))) (Nat.zero_le _))) ?_
  · repeat' first | exact trivial | exact rfl | refine And.intro ?_ ?_
  rintro i hi
  have hi : i ≤ l.length := hi
  have i0 : (0 : Int) ≤ ((i : Nat) : Int) := Int.natCast_nonneg _
  refine And.intro (fun h => ?_) (fun h => ?_)
  · have hil : i < l.length := by
      have : ((i : Nat) : Int) < ((l.length : Nat) : Int) := of_decide_eq_true h
      omega
    obtain ⟨x, e, b, o, he, hx, hp, hrd⟩ := ev_at hl hil
    have hp : p = some ⟨b, o, none⟩ := hp
    have g2 : ((i : Nat) : Int) < ((l.length : Nat) : Int) := by omega
    have wi : IntKind.i64.wrap (((i : Nat) : Int) + 1) = ((i + 1 : Nat) : Int) := wrap_i64 (by omega) (by omega)
    have hst := open_step he t
    obtain ⟨xk, xt, xn, xr⟩ := x
    have hk : xk = e.k := hx.k
    have ht : xt = e.t := hx.t
    have hn : xn = e.n := hx.n
    have r0 : S.rd b (o + i * 7 + 0) [.int .i64 xk] := rd_field hrd rfl
    have r1 : S.rd b (o + i * 7 + 1) [.int .i64 xt] := rd_field hrd rfl
    have r2 : S.rd b (o + i * 7 + 2) [.int .i64 xn] := rd_field hrd rfl
    by_cases h3 : e.k = 3
    · have hv : Rc.openR (l.take (i + 1)) t = -1 := by rw [hst]; unfold Rc.stepO; rw [if_neg (show ¬ (e.k = 1 ∧ e.t = t) by omega), if_neg (show ¬ (e.k = 0 ∧ e.t = t) by omega), if_pos h3]
      refine ⟨i0, g2, b, o, hp, xk, trivial, r0, onE (beq_iff_eq.2 (show xk = 3 by omega)) ⟨i0, g2, b, o, hp, xk, trivial, r0, offE (beq_eq_false_iff_ne.2 (show ¬ xk = 0 by omega)) (onF ⟨i0, g2, b, o, hp, xk, trivial, r0, offE (beq_eq_false_iff_ne.2 (show ¬ xk = 1 by omega)) (onF ⟨((i + 1 : Nat) : Int), wi, i + 1, ⟨⟨?_, rfl⟩, rfl, Store.le_refl _⟩, hil, by show l.length - (i + 1) < l.length - i; omega⟩)⟩)⟩⟩
      rw [hv]
      repeat' first | exact trivial | exact rfl | refine And.intro ?_ ?_
    by_cases h0 : e.k = 0
    · by_cases h1 : e.t = t
      · have hv : Rc.openR (l.take (i + 1)) t = (i : Int) := by rw [hst]; unfold Rc.stepO; rw [if_neg (show ¬ (e.k = 1 ∧ e.t = t) by omega), if_pos (show e.k = 0 ∧ e.t = t from ⟨h0, h1⟩)]
        refine ⟨i0, g2, b, o, hp, xk, trivial, r0, offE (beq_eq_false_iff_ne.2 (show ¬ xk = 3 by omega)) ⟨i0, g2, b, o, hp, xk, trivial, r0, onE (beq_iff_eq.2 (show xk = 0 by omega)) ⟨i0, g2, b, o, hp, xt, trivial, r1, onE (beq_iff_eq.2 (show xt = t by omega)) ⟨i0, g2, b, o, hp, xk, trivial, r0, offE (beq_eq_false_iff_ne.2 (show ¬ xk = 1 by omega)) (onF ⟨((i + 1 : Nat) : Int), wi, i + 1, ⟨⟨?_, rfl⟩, rfl, Store.le_refl _⟩, hil, by show l.length - (i + 1) < l.length - i; omega⟩)⟩⟩⟩⟩
        rw [hv]
        repeat' first | exact trivial | exact rfl | refine And.intro ?_ ?_
      · have hv : Rc.openR (l.take (i + 1)) t = Rc.openR (l.take i) t := by rw [hst]; unfold Rc.stepO; rw [if_neg (show ¬ (e.k = 1 ∧ e.t = t) by omega), if_neg (show ¬ (e.k = 0 ∧ e.t = t) by omega), if_neg h3]
        refine ⟨i0, g2, b, o, hp, xk, trivial, r0, offE (beq_eq_false_iff_ne.2 (show ¬ xk = 3 by omega)) ⟨i0, g2, b, o, hp, xk, trivial, r0, onE (beq_iff_eq.2 (show xk = 0 by omega)) ⟨i0, g2, b, o, hp, xt, trivial, r1, offE (beq_eq_false_iff_ne.2 (show ¬ xt = t by omega)) ⟨i0, g2, b, o, hp, xk, trivial, r0, offE (beq_eq_false_iff_ne.2 (show ¬ xk = 1 by omega)) (onF ⟨((i + 1 : Nat) : Int), wi, i + 1, ⟨⟨?_, rfl⟩, rfl, Store.le_refl _⟩, hil, by show l.length - (i + 1) < l.length - i; omega⟩)⟩⟩⟩⟩
        rw [hv]
        repeat' first | exact trivial | exact rfl | refine And.intro ?_ ?_
    by_cases h4 : e.k = 1
    · by_cases h1 : e.t = t
      · have hv : Rc.openR (l.take (i + 1)) t = -1 := by rw [hst]; unfold Rc.stepO; rw [if_pos (show e.k = 1 ∧ e.t = t from ⟨h4, h1⟩)]
        refine ⟨i0, g2, b, o, hp, xk, trivial, r0, offE (beq_eq_false_iff_ne.2 (show ¬ xk = 3 by omega)) ⟨i0, g2, b, o, hp, xk, trivial, r0, offE (beq_eq_false_iff_ne.2 (show ¬ xk = 0 by omega)) (onF ⟨i0, g2, b, o, hp, xk, trivial, r0, onE (beq_iff_eq.2 (show xk = 1 by omega)) ⟨i0, g2, b, o, hp, xt, trivial, r1, onE (beq_iff_eq.2 (show xt = t by omega)) ⟨((i + 1 : Nat) : Int), wi, i + 1, ⟨⟨?_, rfl⟩, rfl, Store.le_refl _⟩, hil, by show l.length - (i + 1) < l.length - i; omega⟩⟩⟩)⟩⟩
        rw [hv]
        repeat' first | exact trivial | exact rfl | refine And.intro ?_ ?_
      · have hv : Rc.openR (l.take (i + 1)) t = Rc.openR (l.take i) t := by rw [hst]; unfold Rc.stepO; rw [if_neg (show ¬ (e.k = 1 ∧ e.t = t) by omega), if_neg (show ¬ (e.k = 0 ∧ e.t = t) by omega), if_neg h3]
        refine ⟨i0, g2, b, o, hp, xk, trivial, r0, offE (beq_eq_false_iff_ne.2 (show ¬ xk = 3 by omega)) ⟨i0, g2, b, o, hp, xk, trivial, r0, offE (beq_eq_false_iff_ne.2 (show ¬ xk = 0 by omega)) (onF ⟨i0, g2, b, o, hp, xk, trivial, r0, onE (beq_iff_eq.2 (show xk = 1 by omega)) ⟨i0, g2, b, o, hp, xt, trivial, r1, offE (beq_eq_false_iff_ne.2 (show ¬ xt = t by omega)) ⟨((i + 1 : Nat) : Int), wi, i + 1, ⟨⟨?_, rfl⟩, rfl, Store.le_refl _⟩, hil, by show l.length - (i + 1) < l.length - i; omega⟩⟩⟩)⟩⟩
        rw [hv]
        repeat' first | exact trivial | exact rfl | refine And.intro ?_ ?_
    · have hv : Rc.openR (l.take (i + 1)) t = Rc.openR (l.take i) t := by rw [hst]; unfold Rc.stepO; rw [if_neg (show ¬ (e.k = 1 ∧ e.t = t) by omega), if_neg (show ¬ (e.k = 0 ∧ e.t = t) by omega), if_neg h3]
      refine ⟨i0, g2, b, o, hp, xk, trivial, r0, offE (beq_eq_false_iff_ne.2 (show ¬ xk = 3 by omega)) ⟨i0, g2, b, o, hp, xk, trivial, r0, offE (beq_eq_false_iff_ne.2 (show ¬ xk = 0 by omega)) (onF ⟨i0, g2, b, o, hp, xk, trivial, r0, offE (beq_eq_false_iff_ne.2 (show ¬ xk = 1 by omega)) (onF ⟨((i + 1 : Nat) : Int), wi, i + 1, ⟨⟨?_, rfl⟩, rfl, Store.le_refl _⟩, hil, by show l.length - (i + 1) < l.length - i; omega⟩)⟩)⟩⟩
      rw [hv]
      repeat' first | exact trivial | exact rfl | refine And.intro ?_ ?_
  · have hil : i = l.length := by
      have : ¬ ((i : Nat) : Int) < ((l.length : Nat) : Int) := of_decide_eq_false h
      omega
    subst hil
    rw [List.take_length]
    exact ⟨rfl, (), rfl, trivial⟩
theorem last_spec (S : Store) (q : Hd) (l : List Rc.Ev) (hl : LIs S q l) (hn : l.length ≤ 1000000) (t : Int) : Pure Tryz.prog 73 S [slV q, .int .i64 t] (A := Unit) (fun _ => rI (Rc.lastR l t)) (fun _ _ => True) := by
  have hq := li_len hl
  obtain ⟨p, n, c⟩ := q
  have hq : n = l.length := hq
  subst hq
  refine pure_vc agrees Tryz.func73 rfl rfl (fun S S' q hle h => h) ?_
  refine ⟨[], [], Nat, [5, 6] ++ List.range' 7 27, fun i => [(5, rI (Rc.lastR (l.take i) t)), (6, rI i)], fun _ => [], fun _ => S, fun i => i ≤ l.length, fun i => l.length - i, ?_⟩
  refine And.intro (Exists.intro 0 (And.intro (And.intro (And.intro ?_ rfl) (And.intro rfl (Store.le_refl _))) (Nat.zero_le _))) ?_
  · repeat' first | exact trivial | exact rfl | refine And.intro ?_ ?_
  rintro i hi
  have hi : i ≤ l.length := hi
  have i0 : (0 : Int) ≤ ((i : Nat) : Int) := Int.natCast_nonneg _
  refine And.intro (fun h => ?_) (fun h => ?_)
  · have hil : i < l.length := by
      have : ((i : Nat) : Int) < ((l.length : Nat) : Int) := of_decide_eq_true h
      omega
    obtain ⟨x, e, b, o, he, hx, hp, hrd⟩ := ev_at hl hil
    have hp : p = some ⟨b, o, none⟩ := hp
    have g2 : ((i : Nat) : Int) < ((l.length : Nat) : Int) := by omega
    have wi : IntKind.i64.wrap (((i : Nat) : Int) + 1) = ((i + 1 : Nat) : Int) := wrap_i64 (by omega) (by omega)
    have hst := last_step he t
    obtain ⟨xk, xt, xn, xr⟩ := x
    have hk : xk = e.k := hx.k
    have ht : xt = e.t := hx.t
    have hn : xn = e.n := hx.n
    have r0 : S.rd b (o + i * 7 + 0) [.int .i64 xk] := rd_field hrd rfl
    have r1 : S.rd b (o + i * 7 + 1) [.int .i64 xt] := rd_field hrd rfl
    have r2 : S.rd b (o + i * 7 + 2) [.int .i64 xn] := rd_field hrd rfl
    by_cases h0 : e.k = 0
    · by_cases h1 : e.t = t
      · have hv : Rc.lastR (l.take (i + 1)) t = xn := by rw [hst, if_pos (show e.k = 0 ∧ e.t = t from ⟨h0, h1⟩), hn]
        refine ⟨i0, g2, b, o, hp, xk, trivial, r0, onE (beq_iff_eq.2 (show xk = 0 by omega)) ⟨i0, g2, b, o, hp, xt, trivial, r1, onE (beq_iff_eq.2 (show xt = t by omega)) ⟨i0, g2, b, o, hp, xn, trivial, r2, ⟨((i + 1 : Nat) : Int), wi, i + 1, ⟨⟨?_, rfl⟩, rfl, Store.le_refl _⟩, hil, by show l.length - (i + 1) < l.length - i; omega⟩⟩⟩⟩
        rw [hv]
        repeat' first | exact trivial | exact rfl | refine And.intro ?_ ?_
      · have hv : Rc.lastR (l.take (i + 1)) t = Rc.lastR (l.take i) t := by rw [hst, if_neg (show ¬ (e.k = 0 ∧ e.t = t) by omega)]
        refine ⟨i0, g2, b, o, hp, xk, trivial, r0, onE (beq_iff_eq.2 (show xk = 0 by omega)) ⟨i0, g2, b, o, hp, xt, trivial, r1, offE (beq_eq_false_iff_ne.2 (show ¬ xt = t by omega)) ⟨((i + 1 : Nat) : Int), wi, i + 1, ⟨⟨?_, rfl⟩, rfl, Store.le_refl _⟩, hil, by show l.length - (i + 1) < l.length - i; omega⟩⟩⟩
        rw [hv]
        repeat' first | exact trivial | exact rfl | refine And.intro ?_ ?_
    · have hv : Rc.lastR (l.take (i + 1)) t = Rc.lastR (l.take i) t := by rw [hst, if_neg (show ¬ (e.k = 0 ∧ e.t = t) by omega)]
      refine ⟨i0, g2, b, o, hp, xk, trivial, r0, offE (beq_eq_false_iff_ne.2 (show ¬ xk = 0 by omega)) (onF ⟨((i + 1 : Nat) : Int), wi, i + 1, ⟨⟨?_, rfl⟩, rfl, Store.le_refl _⟩, hil, by show l.length - (i + 1) < l.length - i; omega⟩)⟩
      rw [hv]
      repeat' first | exact trivial | exact rfl | refine And.intro ?_ ?_
  · have hil : i = l.length := by
      have : ¬ ((i : Nat) : Int) < ((l.length : Nat) : Int) := of_decide_eq_false h
      omega
    subst hil
    rw [List.take_length]
    exact ⟨rfl, (), rfl, trivial⟩
theorem all_snoc {P : UInt8 → Bool} {s : Sc.Bs} {i : Nat} {x : UInt8} (hx : s[i]? = some x) (h : (s.take i).all P = true) (hp : P x = true) : (s.take (i + 1)).all P = true := by
  rw [List.take_add_one, hx, List.all_append, h]; simp [hp]
theorem all_no {P : UInt8 → Bool} {s : Sc.Bs} {i : Nat} {x : UInt8} (hx : s[i]? = some x) (hp : P x = false) : s.all P = false := by
  cases h : s.all P with
  | false => rfl
  | true => have := List.all_eq_true.1 h x (List.mem_of_getElem? hx); rw [hp] at this; cases this
theorem refName_spec (S : Store) (s : Sc.Bs) (hs : s.length ≤ 1000000000) : Pure Tryz.prog 74 S [.string (bs s)] (A := Unit) (fun _ => rB (Sc.namedW s)) (fun _ _ => True) := by
  refine pure_vc agrees Tryz.func74 rfl rfl (fun S S' q hle h => h) ?_
  have hsz := bs_size s
  by_cases h1 : s.length < 1
  · refine onE (decide_eq_true (by show ((bs s).size : Int) < 1; omega)) (onT ⟨rfl, (), ?_, trivial⟩)
    unfold Sc.namedW; rw [decide_eq_false (by omega)]; rfl
  by_cases h2 : s.length > 24
  · refine offE (decide_eq_false (by show ¬ ((bs s).size : Int) < 1; omega)) (onE (decide_eq_true (by show ((bs s).size : Int) > 24; omega)) ⟨rfl, (), ?_, trivial⟩)
    unfold Sc.namedW; rw [decide_eq_false (show ¬ s.length ≤ 24 by omega), Bool.false_and, Bool.and_false]; rfl
  refine offE (decide_eq_false (by show ¬ ((bs s).size : Int) < 1; omega)) (offE (decide_eq_false (by show ¬ ((bs s).size : Int) > 24; omega)) ?_)
  have e1 : Sc.namedW s = s.all Sc.nameB := by unfold Sc.namedW; rw [decide_eq_true (by omega), decide_eq_true (by omega)]; rfl
  refine ⟨[], [], Nat, [4] ++ List.range' 13 36, fun i => [(3, rI i)], fun _ => [], fun _ => S, fun i => i ≤ s.length ∧ (s.take i).all Sc.nameB = true, fun i => s.length - i, ?_⟩
  refine And.intro (Exists.intro 0 (And.intro (And.intro (And.intro ?_ rfl) (And.intro rfl (Store.le_refl _))) ⟨Nat.zero_le _, rfl⟩)) ?_
  · repeat' first | exact trivial | exact rfl | refine And.intro ?_ ?_
  rintro i ⟨hi, hall⟩
  have i0 : (0 : Int) ≤ ((i : Nat) : Int) := Int.natCast_nonneg _
  refine And.intro (fun h => ?_) (fun h => ?_)
  · have hil : i < s.length := by
      have h : ((i : Nat) : Int) < ((bs s).size : Int) := of_decide_eq_true h
      omega
    obtain ⟨x, hx⟩ : ∃ x, s[i]? = some x := ⟨_, List.getElem?_eq_getElem hil⟩
    refine ⟨i0, x, by rw [bs_get]; exact hx, ?_⟩
    have key : Sc.nameB x = (decide (97 ≤ x.toNat ∧ x.toNat ≤ 122) || decide (65 ≤ x.toNat ∧ x.toNat ≤ 90) || decide (48 ≤ x.toNat ∧ x.toNat ≤ 57) || decide (x.toNat = 95)) := by
      unfold Sc.nameB; simp only [Bool.decide_and]
    have hcl : x.toNat < 48 ∨ (48 ≤ x.toNat ∧ x.toNat ≤ 57) ∨ (58 ≤ x.toNat ∧ x.toNat ≤ 64) ∨ (65 ≤ x.toNat ∧ x.toNat ≤ 90) ∨ (91 ≤ x.toNat ∧ x.toNat ≤ 96 ∧ x.toNat ≠ 95) ∨ x.toNat = 95 ∨ (97 ≤ x.toNat ∧ x.toNat ≤ 122) ∨ 123 ≤ x.toNat := by omega
    have bad : Sc.nameB x = false → rB (Sc.namedW s) = rB false := fun q => by
      rw [e1, all_no hx q]
    rcases hcl with hc | hc | hc | hc | hc | hc | hc | hc
    all_goals
      (repeat' first | refine onT ?_ | refine onF ?_ | refine onE (decide_eq_true (by omega)) ?_ | refine offE (decide_eq_false (by omega)) ?_ | refine onE (ntF (beq_eq_false_iff_ne.2 (by omega))) ?_ | refine offE (ntT (beq_iff_eq.2 (by omega))) ?_ | refine onE (ntF (decide_eq_false (by omega))) ?_ | refine offE (ntT (decide_eq_true (by omega))) ?_ | refine onE (beq_iff_eq.2 (by omega)) ?_ | refine offE (beq_eq_false_iff_ne.2 (by omega)) ?_)
    all_goals first
      | exact ⟨rfl, (), bad (by rw [key, decide_eq_false (by omega), decide_eq_false (by omega), decide_eq_false (by omega), decide_eq_false (by omega)]; rfl), trivial⟩
      | (refine ⟨((i + 1 : Nat) : Int), wrap_i64 (by omega) (by omega), i + 1, ⟨⟨?_, rfl⟩, rfl, Store.le_refl _⟩, ⟨hil, all_snoc hx hall ?_⟩, by show s.length - (i + 1) < s.length - i; omega⟩
         · repeat' first | exact trivial | exact rfl | refine And.intro ?_ ?_
         · rw [key]; simp only [Bool.or_eq_true, decide_eq_true_eq]; omega)
  · have hil : i = s.length := by
      have h : ¬ ((i : Nat) : Int) < ((bs s).size : Int) := of_decide_eq_false h
      omega
    subst hil
    rw [List.take_length] at hall
    refine ⟨rfl, (), ?_, trivial⟩
    rw [e1, hall]; rfl
theorem more_spec (S : Store) (q : Hd) (l : List Rc.Ev) (hl : LIs S q l) (hn : l.length ≤ 1000000) (y : Ex) (e : Rc.Ev) (hy : EIs S y e) : Pure Tryz.prog 75 S [slV q, vE y] (A := Hd) (fun q => .c (.v (slV q))) (fun S' q => LIs S' q (l ++ [e])) := by
  obtain ⟨L, rfl, hlen, hcap, hr, hK⟩ := hl
  obtain ⟨p, n, c⟩ := q
  have hlen : n = L.length := hlen
  subst hlen
  have hr : RowRd S p shE (L.map (·.1)) := hr
  rw [List.length_map] at hn
  have hll : (L.map (·.1)).length = L.length := List.length_map _
  obtain ⟨xs, hxs⟩ : ∃ xs : List Ex, xs = L.map (·.1) := ⟨_, rfl⟩
  rw [← hxs] at hr hll
  refine pure_vc agrees Tryz.func75 rfl rfl (fun S S' q hle h => h.le hle) ?_
  refine .inl ⟨rfl, xs, src_of hll.symm hr, okE _, by show xs.length * 80 ≤ 140737488355328; omega, ?_⟩
  refine ⟨[y], ⟨rfl, rfl⟩, okE _, by show (xs.length + 1) * 80 ≤ 140737488355328; omega, ?_⟩
  intro p3 c3 S3 hS3 hr3 hpf3
  refine ⟨rfl, (p3, (xs ++ [y]).length, c3), rfl, L ++ [(y, e)], by rw [List.map_append]; rfl, ?_, pform_le hpf3.1, ?_, fun z hz => ?_⟩
  · show (xs ++ [y]).length = _
    rw [List.length_append, List.length_append, hll]; rfl
  · rw [List.map_append, ← hxs]; exact hr3
  · rcases List.mem_append.1 hz with hz | hz
    · exact (hK z hz).le hS3
    · simp only [List.mem_singleton] at hz
      subst hz; exact hy.le hS3
end Go.Proofs.YtpeehenohdlfdaaGreatDoor
