/- law09: plain memory (25): the law's own walk of a test of stores, looks and swaps. -/
import Derived.Test.YtapblcfbmaikjaaGreatDoorGk
namespace Go.Proofs.YtapblcfbmaikjaaGreatDoor
open Go Go.Vc Go.Sort Go.RowKit Go.Maps
set_option maxRecDepth 100000
set_option maxHeartbeats 16000000

abbrev HL := Hd × List Li.Wd
def pvs : List HL → List (Value × List Li.Wd)
  | [] => []
  | e :: es => if e.1.1.isNone = true then pvs es else (slV e.1, e.2) :: pvs es
theorem pvs_append : ∀ (a b : List HL), pvs (a ++ b) = pvs a ++ pvs b
  | [], _ => rfl
  | e :: a, b => by
    rw [List.cons_append, pvs, pvs, pvs_append a b]
    split <;> rfl
theorem pvs_some {e : HL} (h : e.1.1.isNone = false) (B : List HL) : pvs (e :: B) = (slV e.1, e.2) :: pvs B := by rw [pvs, if_neg (by rw [h]; simp)]
theorem pvs_none {e : HL} (h : e.1.1.isNone = true) (B : List HL) : pvs (e :: B) = pvs B := by rw [pvs, if_pos h]
/-- What holds of each row. -/
def okE (e : HL) : Prop := e.1.2.1 = e.2.length ∧ (e.1.1 = none → e.1 = (none, 0, 0) ∧ e.2 = []) ∧ e.1.2.1 ≤ e.1.2.2 ∧ (∀ w ∈ e.2, okW w)
theorem td_of {S : Store} {p : Option Addr} {c : Nat} {es : List HL} (hok : ∀ e ∈ es, okE e) (hr : RowRd S p .slice (es.map (·.1))) (h : ∀ x ∈ pvs es, RowIs S x.1 shW x.2) : TdIs S (p, es.length, c) (es.map (·.2)) := by
  refine ⟨es, rfl, rfl, hr, fun z hz => ?_⟩
  have ho := hok z hz
  refine ⟨ho.1, ?_, ho.2.2.2⟩
  cases hn : z.1.1.isNone with
  | true =>
    have := ho.2.1 (by simp at hn; exact hn)
    rw [this.2]
    exact ⟨.inl rfl, fun x hx => (by cases hx)⟩
  | false =>
    obtain ⟨A, B, rfl⟩ := List.append_of_mem hz
    have := h (slV z.1, z.2) (by rw [pvs_append, pvs_some hn]; simp)
    exact this.slice.2
theorem split_at {α : Type} {l : List α} {k : Nat} (h : k < l.length) : ∃ A e B, l = A ++ e :: B ∧ A.length = k :=
  ⟨l.take k, l[k], l.drop (k + 1), by rw [List.getElem_cons_drop, List.take_append_drop], by rw [List.length_take]; omega⟩
theorem wrap_pred {x : Int} (h : inI64 x) : ∃ t, IntKind.i64.wrap (x - 1) = t ∧ ((1 ≤ x ∧ t = x - 1) ∨ (x < 1 ∧ (t < 0 ∨ t = 9223372036854775807))) := by
  by_cases h0 : x = -9223372036854775808
  · subst h0
    exact ⟨9223372036854775807, by decide, .inr ⟨by decide, .inr rfl⟩⟩
  · refine ⟨x - 1, wrap_i64 (by have := h.1; omega) (by have := h.2; omega), ?_⟩
    by_cases h1 : 1 ≤ x
    · exact .inl ⟨h1, rfl⟩
    · exact .inr ⟨by omega, .inl (by omega)⟩

theorem stepC_none {T : List (List Li.Act)} {c : Li.Sc} {k : Nat} (h : Li.actC T c k = none) : Li.stepC T c k = c := by unfold Li.stepC; rw [h]
theorem stepC_some {T : List (List Li.Act)} {c : Li.Sc} {k : Nat} {a : Li.Act} (h : Li.actC T c k = some a) : Li.stepC T c k = ⟨if a.op = 3 ∨ a.op = 4 then c.w.set a.loc.toNat a.new else if a.op = 6 ∧ c.w.getD a.loc.toNat (0, 0, 0) = a.old then c.w.set a.loc.toNat a.new else c.w, c.did.set k (c.did.getD k 0 + 1), if a.op = 5 ∨ a.op = 6 then c.told.set k (c.told.getD k [] ++ [c.w.getD a.loc.toNat (0, 0, 0)]) else c.told⟩ := by unfold Li.stepC; rw [h]
structure okC (n : Nat) (T : List (List Li.Act)) (m : Nat) (c : Li.Sc) : Prop where
  wl : c.w.length = n
  wo : ∀ w ∈ c.w, okW w
  dl : c.did.length = T.length
  tl : c.told.length = T.length
  rl : ∀ y ∈ c.told, y.length ≤ m ∧ ∀ w ∈ y, okW w
  dm : ∀ k, k < T.length → c.did.getD k 0 ≤ (T.getD k []).length
theorem okW0 : okW (0, 0, 0) := ⟨i_0, ⟨by decide, by decide⟩, ⟨by decide, by decide⟩⟩
theorem getD_ok {l : List Li.Wd} (h : ∀ w ∈ l, okW w) (i : Nat) : okW (l.getD i (0, 0, 0)) := by
  by_cases hi : i < l.length
  · exact h _ (Li.getD_mem hi)
  · rw [List.getD_eq_getElem?_getD, List.getElem?_eq_none (by omega)]; exact okW0
theorem stepC_ok {n m : Nat} {T : List (List Li.Act)} (hT : ∀ l ∈ T, ∀ a ∈ l, okAct a) {c : Li.Sc} (h : okC n T m c) (k : Nat) : okC n T (m + 1) (Li.stepC T c k) := by
  have up : okC n T (m + 1) c := ⟨h.wl, h.wo, h.dl, h.tl, fun y hy => ⟨by have := (h.rl y hy).1; omega, (h.rl y hy).2⟩, h.dm⟩
  unfold Li.stepC
  split
  · exact up
  · rename_i a ha
    unfold Li.actC at ha
    have hin := (List.getElem?_eq_some_iff.1 ha).1
    have hk : k < T.length := by
      refine Nat.lt_of_not_le fun hle => ?_
      have e : T.getD k [] = [] := by rw [List.getD_eq_getElem?_getD, List.getElem?_eq_none hle]; rfl
      rw [e] at hin; exact absurd hin (Nat.not_lt_zero _)
    have hao := hT _ (Li.getD_mem hk) a (List.mem_of_getElem? ha)
    have setw : ∀ w ∈ c.w.set a.loc.toNat a.new, okW w := fun w hw => by
      rcases List.mem_or_eq_of_mem_set hw with hw | hw
      · exact h.wo w hw
      · rw [hw]; exact hao.2.2.2
    refine ⟨?_, ?_, by simp [h.dl], ?_, ?_, fun k' hk' => ?_⟩
    · show (if a.op = 3 ∨ a.op = 4 then c.w.set a.loc.toNat a.new else if a.op = 6 ∧ c.w.getD a.loc.toNat (0, 0, 0) = a.old then c.w.set a.loc.toNat a.new else c.w).length = n
      split
      · rw [List.length_set]; exact h.wl
      · split
        · rw [List.length_set]; exact h.wl
        · exact h.wl
    · show ∀ w ∈ (if a.op = 3 ∨ a.op = 4 then c.w.set a.loc.toNat a.new else if a.op = 6 ∧ c.w.getD a.loc.toNat (0, 0, 0) = a.old then c.w.set a.loc.toNat a.new else c.w), okW w
      split
      · exact setw
      · split
        · exact setw
        · exact h.wo
    · show (if a.op = 5 ∨ a.op = 6 then c.told.set k (c.told.getD k [] ++ [c.w.getD a.loc.toNat (0, 0, 0)]) else c.told).length = _
      split
      · rw [List.length_set]; exact h.tl
      · exact h.tl
    · show ∀ y ∈ (if a.op = 5 ∨ a.op = 6 then c.told.set k (c.told.getD k [] ++ [c.w.getD a.loc.toNat (0, 0, 0)]) else c.told), _
      split
      · intro y hy
        rcases List.mem_or_eq_of_mem_set hy with hy | hy
        · exact up.rl y hy
        · subst hy
          have := h.rl _ (Li.getD_mem (d := []) (show k < c.told.length by rw [h.tl]; exact hk))
          refine ⟨by rw [List.length_append]; show _ + 1 ≤ _; omega, fun w hw => ?_⟩
          rcases List.mem_append.1 hw with hw | hw
          · exact this.2 w hw
          · simp only [List.mem_singleton] at hw
            rw [hw]; exact getD_ok h.wo _
      · exact up.rl
    · show (c.did.set k (c.did.getD k 0 + 1)).getD k' 0 ≤ _
      rw [Li.getD_set]
      split
      · rename_i q; rw [← q.1]; omega
      · exact h.dm k' hk'
theorem pickC_ok {n m : Nat} {T : List (List Li.Act)} (hT : ∀ l ∈ T, ∀ a ∈ l, okAct a) {c : Li.Sc} (h : okC n T m c) (p : Li.Pk) : okC n T (m + 1) (Li.pickC T c p) := by
  unfold Li.pickC
  split
  · exact stepC_ok hT h _
  · exact ⟨h.wl, h.wo, h.dl, h.tl, fun y hy => ⟨by have := (h.rl y hy).1; omega, (h.rl y hy).2⟩, h.dm⟩
theorem runC_ok {n : Nat} {T : List (List Li.Act)} (hT : ∀ l ∈ T, ∀ a ∈ l, okAct a) : ∀ (l : List Li.Pk) {m : Nat} {c : Li.Sc}, okC n T m c → okC n T (m + l.length) (Li.runC T c l)
  | [], _, _, h => h
  | p :: l, m, c, h => by
    have := runC_ok hT l (pickC_ok hT h p)
    rw [List.length_cons, show m + (l.length + 1) = m + 1 + l.length by omega]
    exact this
theorem beginC_ok {first : List Li.Wd} {T : List (List Li.Act)} (hf : ∀ w ∈ first, okW w) : okC first.length T 0 (Li.beginC first T) := by
  refine ⟨rfl, hf, by simp [Li.beginC], by simp [Li.beginC], fun y hy => ?_, fun k hk => ?_⟩
  · have hy : y ∈ List.replicate T.length ([] : List Li.Wd) := hy
    rw [(List.mem_replicate.1 hy).2]
    exact ⟨Nat.le_refl _, fun w hw => by cases hw⟩
  · show (List.replicate T.length 0).getD k 0 ≤ _
    rw [List.getD_eq_getElem?_getD, List.getElem?_replicate, if_pos hk]; exact Nat.zero_le _
theorem runC_succ {T : List (List Li.Act)} {c : Li.Sc} {L : List Li.Pk} {m : Nat} {p : Li.Pk} (h : L[m]? = some p) : Li.runC T c (L.take (m + 1)) = Li.pickC T (Li.runC T c (L.take m)) p := by
  unfold Li.runC
  rw [List.take_add_one, h, List.foldl_append]; rfl
theorem w_ne {a b : Li.Wd} (h : a ≠ b) : (a.1 == b.1 && (a.2.1 == b.2.1 && (a.2.2 == b.2.2 && true))) = false := by
  obtain ⟨a1, a2, a3⟩ := a
  obtain ⟨b1, b2, b3⟩ := b
  cases hh : (a1 == b1 && (a2 == b2 && (a3 == b3 && true))) with
  | false => rfl
  | true =>
    simp only [Bool.and_eq_true, beq_iff_eq, Bool.and_true] at hh
    exact absurd (by rw [hh.1, hh.2.1, hh.2.2]) h
theorem pvs_rep : ∀ n : Nat, pvs (List.replicate n ((none, 0, 0), [])) = []
  | 0 => rfl
  | n + 1 => by rw [List.replicate_succ, pvs_none rfl, pvs_rep n]
theorem pf_some {p : Option Addr} {n c : Nat} (hf : PForm p (n + 1) c) : p.isNone = false ∧ n + 1 ≤ c := by
  rcases hf with ⟨_, h, _⟩ | ⟨g, rfl, h⟩
  · exact absurd h (Nat.succ_ne_zero _)
  · exact ⟨rfl, h⟩
theorem upd_1 (A B : List HL) (e : HL) (h : Hd) (xs : List Li.Wd) : ((A ++ e :: B).map (·.1)).set A.length h = (A ++ (h, xs) :: B).map (·.1) := by simp
theorem upd_2 (A B : List HL) (e : HL) (h : Hd) (w : Li.Wd) : (A ++ (h, e.2 ++ [w]) :: B).map (·.2) = ((A ++ e :: B).map (·.2)).set A.length (((A ++ e :: B).map (·.2)).getD A.length [] ++ [w]) := by
  simp [List.getD_eq_getElem?_getD]
theorem upd_ok {A B : List HL} {e : HL} (hok : ∀ u ∈ A ++ e :: B, okE u) {p : Option Addr} {c : Nat} (hf : PForm p (e.1.2.1 + 1) c) {w : Li.Wd} (hw : okW w) : ∀ u ∈ A ++ (((p, e.1.2.1 + 1, c) : Hd), e.2 ++ [w]) :: B, okE u := fun u hu => by
  have he := hok e (by simp)
  have hp := pf_some hf
  rcases List.mem_append.1 hu with hu | hu
  · exact hok u (by simp [hu])
  rcases List.mem_cons.1 hu with rfl | hu
  · refine ⟨by show e.1.2.1 + 1 = (e.2 ++ [w]).length; rw [List.length_append, ← he.1]; rfl, fun hn => ?_, hp.2, fun v hv => ?_⟩
    · have hn : p = none := hn
      rw [hn] at hp; exact absurd hp.1 (by decide)
    · rcases List.mem_append.1 hv with hv | hv
      · exact he.2.2.2 v hv
      · simp only [List.mem_singleton] at hv
        rw [hv]; exact hw
  · exact hok u (by simp [hu])
theorem map_set_nat (l : List Nat) (k d : Nat) : (l.map fun i : Nat => (i : Int)).set k ((d + 1 : Nat) : Int) = (l.set k (d + 1)).map fun i : Nat => (i : Int) := by rw [List.map_set]
theorem getW {l : List Li.Wd} {i : Nat} (h : i < l.length) : l[i]? = some (l.getD i (0, 0, 0)) := by rw [List.getD_eq_getElem?_getD, List.getElem?_eq_getElem h]; rfl
/-- The picks that follow. -/
def tk (T : List (List Li.Act)) (i : Nat) : List Li.Pk := (List.range i).flatMap fun k => reps k (Li.lens T k)
theorem tk_succ (T : List (List Li.Act)) (i : Nat) : tk T (i + 1) = tk T i ++ reps i (Li.lens T i) := by unfold tk; rw [List.range_succ, List.flatMap_append]; simp
theorem reps_len (k j : Nat) : (reps k j).length = j := by unfold reps; rw [List.length_map, List.length_range]
theorem tk_len {T : List (List Li.Act)} (h8 : ∀ l ∈ T, l.length ≤ 8) : ∀ i, (tk T i).length ≤ 8 * i
  | 0 => Nat.le_refl _
  | i + 1 => by
    have := tk_len h8 i
    rw [tk_succ, List.length_append, reps_len]
    have : Li.lens T i ≤ 8 := by
      unfold Li.lens
      by_cases hi : i < T.length
      · exact h8 _ (Li.getD_mem hi)
      · rw [List.getD_eq_getElem?_getD, List.getElem?_eq_none (by omega)]; exact Nat.zero_le _
    omega
theorem tk_ok {T : List (List Li.Act)} {i : Nat} (hi : i ≤ 1000) : ∀ p ∈ tk T i, p.1 = 0 ∧ inI64 p.2.1 := fun p hp => by
  obtain ⟨k, hk, hp⟩ := List.mem_flatMap.1 hp
  obtain ⟨_, -, rfl⟩ := List.mem_map.1 hp
  have := List.mem_range.1 hk
  exact ⟨rfl, by show -9223372036854775808 ≤ (k : Int) + 1; omega, by show (k : Int) + 1 ≤ 9223372036854775807; omega⟩
theorem tail_tk (T : List (List Li.Act)) : Li.tailR T (Li.lens T) = tk T T.length := rfl
theorem lens_at {T : List (List Li.Act)} {i : Nat} {y : List Li.Act} (h : T[i]? = some y) : Li.lens T i = y.length := by unfold Li.lens; rw [List.getD_eq_getElem?_getD, h]; rfl
theorem plain_spec (S : Store) (x : Tz) (first : List Li.Wd) (T : List (List Li.Act)) (hx : TestIs S x first T) (hg : Li.Good first T) (q : Hd) (l : List Li.Pk) (hq : PksIs S q l) (hl : l.length ≤ 200) :
    Pure Tryz.prog 25 S [vT x, slV q] (A := Unit) (fun _ => rS (bs (Li.textO (Li.runC T (Li.beginC first T) (l ++ Li.tailR T (Li.lens T))).told (Li.runC T (Li.beginC first T) (l ++ Li.tailR T (Li.lens T))).w))) (fun _ _ => True) := by
  have hth := hx.t
  obtain ⟨f1, f2, f3, f4⟩ := ws_row hx.f
  have htl := hx.t.len
  have hql := hq.len
  have g1 := hg.f4
  have g2 := hg.t4
  have h8 : ∀ l ∈ T, l.length ≤ 8 := fun l hl => by have := hg.six l hl; omega
  have hTo : ∀ l ∈ T, ∀ a ∈ l, okAct a := fun l hl a ha => hx.t.small hl ha
  obtain ⟨⟨fp, fn, fc⟩, ⟨p, n, c⟩⟩ := x
  have f1 : fn = first.length := f1
  have htl : n = T.length := htl
  obtain ⟨qp, qn, qc⟩ := q
  have hql : qn = l.length := hql
  subst f1 htl hql
  have hqr : RowRd S qp shP l := hq.row
  refine pure_vc agrees Tryz.func25 rfl rfl (fun S S' q hle h => h) ?_
  refine ⟨first, src_of rfl f3, fun _ _ => ⟨trivial, trivial, trivial⟩, by show (0 + first.length) * 16 ≤ 140737488355328; omega, ?_⟩
  refine ⟨or25_3, [], oF25_3, by kernel_rfl, ?_⟩
  have mk8 : (8 : Int) * (T.length : Int) ≤ 140737488355328 := by omega
  have mk24 : (24 : Int) * (T.length : Int) ≤ 140737488355328 := by omega
  have mk1 : (T.length : Int) ≤ 140737488355328 := by omega
  refine ⟨?_, ?_, trivial⟩
  · refine ⟨Int.natCast_nonneg _, Int.le_refl _, mk8, mk1, Int.natCast_nonneg _, Int.le_refl _, mk24, mk1, ?_⟩
    refine ⟨l, src_of rfl hqr, fun _ _ => ⟨trivial, trivial, trivial⟩, by show (0 + l.length) * 24 ≤ 140737488355328; omega, ?_⟩
    refine ⟨[], [], Nat, [11] ++ List.range' 28 22, fun i => [(10, rI (i + 1))], fun i => [.box [.v (.slice fp first.length fc), .v (.slice p T.length c)], .row shW 35 first, .row shI 3 (List.replicate T.length (0 : Int)), .row .slice 22 (List.replicate T.length ((none, 0, 0) : Hd)), .row shP 58 (l ++ tk T i)], fun _ => S, fun i => i ≤ T.length, fun i => T.length - i, ?_⟩
    refine And.intro (Exists.intro 0 (And.intro (And.intro (And.intro ?_ rfl) (And.intro ?_ (Store.le_refl _))) (Nat.zero_le _))) ?_
    · repeat' first | exact trivial | exact rfl | refine And.intro ?_ ?_
    · show _ = [Res.box _, Res.row shW 35 first, _, _, Res.row shP 58 (l ++ tk T 0)]
      have : l ++ tk T 0 = l := List.append_nil l
      rw [this]; rfl
    intro i hi
    have hi : i ≤ T.length := hi
    have htk8 := tk_len h8 i
    refine And.intro (fun h1 => ?_) (fun h1 => ?_)
    · have h1 : (i : Int) + 1 ≤ ((T.length : Nat) : Int) := of_decide_eq_true h1
      obtain ⟨⟨yp, yn, yc⟩, y, b, o, hy, hqy, hp, hok, hrd⟩ := hth.at (i := i) (by omega)
      have hyl : yn = y.length := hqy.len
      subst hyl
      have hy8 := h8 y (List.mem_of_getElem? hy)
      have hly := lens_at hy
      refine ⟨[], [], Nat, [28] ++ List.range' 34 16, fun j => [(11, rI j)], fun j => [.box [.v (.slice fp first.length fc), .v (.slice p T.length c)], .row shW 35 first, .row shI 3 (List.replicate T.length (0 : Int)), .row .slice 22 (List.replicate T.length ((none, 0, 0) : Hd)), .row shP 58 (l ++ tk T i ++ reps i j)], fun _ => S, fun j => j ≤ y.length, fun j => y.length - j, ?_⟩
      refine And.intro (Exists.intro 0 (And.intro (And.intro (And.intro ?_ rfl) (And.intro ?_ (Store.le_refl _))) (Nat.zero_le _))) ?_
      · repeat' first | exact trivial | exact rfl | refine And.intro ?_ ?_
      · show _ = [Res.box _, Res.row shW 35 first, _, _, Res.row shP 58 (l ++ tk T i ++ reps i 0)]
        have : l ++ tk T i ++ reps i 0 = l ++ tk T i := List.append_nil _
        rw [this]; rfl
      intro j hj
      have hj : j ≤ y.length := hj
      refine ⟨(i : Int), by rw [wrap_i64 (by omega) (by omega)]; omega, Int.natCast_nonneg _, by show (i : Int) < ((T.length : Nat) : Int); omega, b, o, hp, ((yp, y.length, yc) : Hd), hok, hrd, ?_⟩
      refine And.intro (fun h2 => ?_) (fun h2 => ?_)
      · have h2 : (j : Int) < ((y.length : Nat) : Int) := of_decide_eq_true h2
        refine ⟨[((0, (i : Int) + 1, 0) : Li.Pk)], ⟨rfl, rfl⟩, fun _ _ => ⟨trivial, trivial, trivial⟩, by show ((l ++ tk T i ++ reps i j).length + 1) * 24 ≤ 140737488355328; rw [List.length_append, List.length_append, reps_len]; omega, ?_⟩
        refine ⟨((j + 1 : Nat) : Int), wrap_i64 (by omega) (by omega), j + 1, ⟨⟨?_, rfl⟩, ?_, Store.le_refl _⟩, by show j + 1 ≤ _; omega, by show y.length - (j + 1) < y.length - j; omega⟩
        · repeat' first | exact trivial | exact rfl | refine And.intro ?_ ?_
        · show _ = [Res.box _, Res.row shW 35 first, _, _, Res.row shP 58 (l ++ tk T i ++ reps i (j + 1))]
          rw [reps_succ, ← List.append_assoc]; rfl
      · have h2 : ¬ (j : Int) < ((y.length : Nat) : Int) := of_decide_eq_false h2
        have hjy : j = y.length := by omega
        refine ⟨((i + 1 : Nat) : Int) + 1, by rw [wrap_i64 (by omega) (by omega)]; omega, i + 1, ⟨⟨?_, rfl⟩, ?_, Store.le_refl _⟩, by show i + 1 ≤ _; omega, by show T.length - (i + 1) < T.length - i; omega⟩
        · repeat' first | exact trivial | exact rfl | refine And.intro ?_ ?_
        · show _ = [Res.box _, Res.row shW 35 first, _, _, Res.row shP 58 (l ++ tk T (i + 1))]
          rw [tk_succ, hly, hjy, ← List.append_assoc]; rfl
    have h1 : ¬ (i : Int) + 1 ≤ ((T.length : Nat) : Int) := of_decide_eq_false h1
    have hil : i = T.length := by omega
    subst hil
    obtain ⟨L, hL⟩ : ∃ L, L = l ++ tk T T.length := ⟨_, rfl⟩
    have hLn : L.length ≤ 264 := by
      rw [hL, List.length_append]
      have := tk_len h8 T.length
      omega
    have hLo : ∀ p ∈ L, inI64 p.2.1 := fun p hp => by
      rw [hL] at hp
      rcases List.mem_append.1 hp with hp | hp
      · exact (hq.ok p hp).2.1
      · exact (tk_ok (by omega) p hp).2
    have hb0 := beginC_ok (T := T) f4
    refine ⟨[], [(100000, shW, 35)], Nat × Li.Sc × List HL, [13, 14, 109, 118, 134] ++ List.range' 50 117, fun a => [(12, rI a.1)], fun a => [.box [.v (.slice fp first.length fc), .v (.slice p T.length c)], .row shW 35 a.2.1.w, .row shI 3 (a.2.1.did.map fun i : Nat => (i : Int)), .row .slice 22 (a.2.2.map (·.1)), .row shP 58 L, .pool shW 35 (pvs a.2.2)], fun _ => S, fun a => a.1 ≤ L.length ∧ a.2.1 = Li.runC T (Li.beginC first T) (L.take a.1) ∧ a.2.2.map (·.2) = a.2.1.told ∧ ∀ e ∈ a.2.2, okE e, fun a => L.length - a.1, ?_⟩
    refine And.intro (Exists.intro (0, Li.beginC first T, List.replicate T.length ((none, 0, 0), [])) (And.intro (And.intro (And.intro ?_ rfl) (And.intro ?_ (Store.le_refl _))) ⟨Nat.zero_le _, rfl, ?_, ?_⟩)) ?_
    · repeat' first | exact trivial | exact rfl | refine And.intro ?_ ?_
    · have r1 : ((Li.beginC first T).did.map fun i : Nat => (i : Int)) = List.replicate T.length (0 : Int) := List.map_replicate ..
      have r2 : (List.replicate T.length (((none, 0, 0) : Hd), ([] : List Li.Wd))).map (·.1) = List.replicate T.length ((none, 0, 0) : Hd) := List.map_replicate ..
      show _ = [Res.box _, Res.row shW 35 first, Res.row shI 3 ((Li.beginC first T).did.map fun i : Nat => (i : Int)), Res.row .slice 22 ((List.replicate T.length (((none, 0, 0) : Hd), ([] : List Li.Wd))).map (·.1)), Res.row shP 58 L, Res.pool shW 35 (pvs (List.replicate T.length ((none, 0, 0), [])))]
      rw [r1, r2, pvs_rep, hL]; rfl
    · exact List.map_replicate ..
    · intro e he
      rw [(List.mem_replicate.1 he).2]
      exact ⟨rfl, fun _ => ⟨rfl, rfl⟩, Nat.le_refl _, fun w hw => by cases hw⟩
    rintro ⟨m, cs, es⟩ ⟨hm, hcs, hes, hok⟩
    have hm : m ≤ L.length := hm
    have hcs : cs = Li.runC T (Li.beginC first T) (L.take m) := hcs
    have hes : es.map (·.2) = cs.told := hes
    have hok : ∀ e ∈ es, okE e := hok
    have hoc : okC first.length T m cs := by
      have := runC_ok hTo (L.take m) hb0
      rw [List.length_take, Nat.min_eq_left hm, Nat.zero_add, ← hcs] at this
      exact this
    have hel : es.length = T.length := by have := congrArg List.length hes; rw [List.length_map, hoc.tl] at this; exact this
    refine And.intro (fun h1 => ?_) (fun h1 => ?_)
    · have h1 : (m : Int) < ((L.length : Nat) : Int) := of_decide_eq_true h1
      obtain ⟨pk, hpk⟩ : ∃ pk, L[m]? = some pk := ⟨_, List.getElem?_eq_getElem (by omega)⟩
      have hpo := hLo pk (List.mem_of_getElem? hpk)
      have hrun := runC_succ (T := T) (c := Li.beginC first T) hpk
      rw [← hcs] at hrun
      obtain ⟨pa, pb, pc⟩ := pk
      have hpo : inI64 pb := hpo
      obtain ⟨t, ht, htc⟩ := wrap_pred hpo
      have skip : Li.pickC T cs (pa, pb, pc) = cs → (m + 1 ≤ L.length ∧ cs = Li.runC T (Li.beginC first T) (L.take (m + 1)) ∧ es.map (·.2) = cs.told ∧ ∀ e ∈ es, okE e) := fun h => ⟨by omega, by rw [hrun, h], hes, hok⟩
      have m0 : (0 : Int) ≤ ((m : Nat) : Int) := Int.natCast_nonneg _
      have mu : L.length - (m + 1) < L.length - m := by omega
      have wm : IntKind.i64.wrap ((m : Int) + 1) = ((m + 1 : Nat) : Int) := wrap_i64 (by omega) (by omega)
      refine ⟨m0, h1, ((pa, pb, pc) : Li.Pk), hpk, t, ht, ?_⟩
      refine ⟨or25_16, [], oF25_16, by kernel_rfl, ?_⟩
      refine ⟨m0, h1, ((pa, pb, pc) : Li.Pk), hpk, ?_⟩
      by_cases k0 : ¬ pa = 0
      · refine onE (bne_iff_ne.2 k0) ?_
        repeat refine onT ?_
        refine ⟨_, wm, (m + 1, cs, es), ⟨⟨?_, rfl⟩, rfl, Store.le_refl _⟩, skip (if_neg fun q => k0 q.1), mu⟩
        repeat' first | exact trivial | exact rfl | refine And.intro ?_ ?_
      have k0 : pa = 0 := Decidable.not_not.1 k0
      refine offE (bne_eq_false_iff_eq.2 k0) ?_
      by_cases k1 : t < 0
      · refine onE (decide_eq_true k1) ?_
        repeat refine onT ?_
        refine ⟨_, wm, (m + 1, cs, es), ⟨⟨?_, rfl⟩, rfl, Store.le_refl _⟩, skip (if_neg fun q => by have q2 : 1 ≤ pb := q.2; omega), mu⟩
        repeat' first | exact trivial | exact rfl | refine And.intro ?_ ?_
      refine offE (decide_eq_false k1) ?_
      by_cases k2 : t ≥ ((T.length : Nat) : Int)
      · refine onE (decide_eq_true k2) ?_
        repeat refine onT ?_
        refine ⟨_, wm, (m + 1, cs, es), ⟨⟨?_, rfl⟩, rfl, Store.le_refl _⟩, skip ?_, mu⟩
        · repeat' first | exact trivial | exact rfl | refine And.intro ?_ ?_
        · unfold Li.pickC
          by_cases q : ¬ (pa = 0 ∧ 1 ≤ pb)
          · exact if_neg q
          have q := Decidable.not_not.1 q
          have q2 := q.2
          rw [if_pos q]
          show Li.stepC T cs (pb - 1).toNat = cs
          have hkb : T.length ≤ (pb - 1).toNat := by omega
          exact stepC_none (by unfold Li.actC; rw [List.getD_eq_getElem?_getD, List.getElem?_eq_none hkb]; rfl)
      refine offE (decide_eq_false k2) ?_
      have hpb : 1 ≤ pb ∧ t = pb - 1 := by omega
      obtain ⟨k, hk⟩ : ∃ k, k = t.toNat := ⟨_, rfl⟩
      have htk : t = (k : Int) := by omega
      have hkT : k < T.length := by omega
      have hpick : Li.pickC T cs (pa, pb, pc) = Li.stepC T cs k := by
        unfold Li.pickC
        rw [if_pos ⟨k0, hpb.1⟩]
        show Li.stepC T cs (pb - 1).toNat = _
        congr 1; omega
      subst htk
      obtain ⟨⟨yp, yn, yc⟩, y, b, o, hy, hqy, hp, hyok, hrd⟩ := hth.at (i := k) hkT
      obtain ⟨hyl, hyc, hyr, hyo⟩ := acts_row hqy
      have hyl : yn = y.length := hyl
      subst hyl
      have hyr : RowRd S yp shA (y.map axOf) := hyr
      have hyT : T.getD k [] = y := by rw [List.getD_eq_getElem?_getD, hy]; rfl
      have hy6 := hg.six y (List.mem_of_getElem? hy)
      obtain ⟨d, hd⟩ : ∃ d, d = cs.did.getD k 0 := ⟨_, rfl⟩
      have hdk : cs.did[k]? = some d := by rw [hd, List.getD_eq_getElem?_getD, List.getElem?_eq_getElem (by rw [hoc.dl]; exact hkT)]; rfl
      have hdm : (cs.did.map fun i : Nat => (i : Int))[(k : Int).toNat]? = some (d : Int) := by rw [Int.toNat_natCast, List.getElem?_map, hdk]; rfl
      have hdl : (k : Int) < (((cs.did.map fun i : Nat => (i : Int)).length : Nat) : Int) := by rw [List.length_map, hoc.dl]; omega
      have hd8 : d ≤ y.length := by have := hoc.dm k hkT; rw [hyT, ← hd] at this; exact this
      have kT : (k : Int) < ((T.length : Nat) : Int) := by omega
      have kz : (0 : Int) ≤ (k : Int) := Int.natCast_nonneg _
      refine ⟨kz, hdl, (d : Int), hdm, kz, kT, b, o, hp, ((yp, y.length, yc) : Hd), hyok, fun S' hle _ => Store.rd_le hle hrd, ?_⟩
      by_cases k3 : (d : Int) ≥ ((y.length : Nat) : Int)
      · refine onE (decide_eq_true k3) ?_
        refine ⟨_, wm, (m + 1, cs, es), ⟨⟨?_, rfl⟩, rfl, Store.le_refl _⟩, skip ?_, mu⟩
        · repeat' first | exact trivial | exact rfl | refine And.intro ?_ ?_
        · rw [hpick]
          exact stepC_none (by unfold Li.actC; rw [hyT, ← hd]; exact List.getElem?_eq_none (by omega))
      refine offE (decide_eq_false k3) ?_
      obtain ⟨a, ha⟩ : ∃ a, y[d]? = some a := ⟨_, List.getElem?_eq_getElem (by omega)⟩
      have hact : Li.actC T cs k = some a := by unfold Li.actC; rw [hyT, ← hd]; exact ha
      obtain ⟨b3, o3, e3, ok3, hr3⟩ := row_at hyr (i := d) (x := axOf a) (by rw [List.getElem?_map, ha]; rfl)
      have haok := hyo a (List.mem_of_getElem? ha)
      have hstep := stepC_some hact
      rw [← hpick, ← hrun] at hstep
      have hloc := (hg.ok y (List.mem_of_getElem? hy) a (List.mem_of_getElem? ha)).2.2
      obtain ⟨ao, al, ⟨a1, a2, a3⟩, a4, a5, a6⟩ := a
      refine ⟨or25_17, [6], oF25_17, by kernel_rfl, ?_⟩
      refine ⟨kz, kT, b, o, hp, ((yp, y.length, yc) : Hd), hyok, fun S' hle _ => Store.rd_le hle hrd, kz, hdl, (d : Int), hdm, Int.natCast_nonneg _, by show (d : Int) < ((y.length : Nat) : Int); omega, b3, o3, e3, ((ao, al, (a1, a2, a3), a4, a5, a6) : Ax), ok3, fun S' hle _ => Store.rd_le hle hr3, ?_⟩
      refine ⟨kz, hdl, (d : Int), hdm, ((d + 1 : Nat) : Int), wrap_i64 (by omega) (by omega), kz, hdl, (d : Int), ((d + 1 : Nat) : Int), hdm, trivial, rfl, Nat.le_refl 1, ?_⟩
      have hloc : ao ≠ 0 → ao ≠ 8 → 0 ≤ al ∧ al < ((first.length : Nat) : Int) := hloc
      obtain ⟨w0, hw00⟩ : ∃ w0, w0 = cs.w.getD al.toNat (0, 0, 0) := ⟨_, rfl⟩
      have hwl := hoc.wl
      have hw0k : okW w0 := by rw [hw00]; exact getD_ok hoc.wo _
      obtain ⟨A, e, B, hes0, hAl⟩ := split_at (l := es) (k := k) (by rw [hel]; exact hkT)
      subst hes0 hAl
      have heo := hok e (by simp)
      have hew : e.2.length ≤ m := (hoc.rl e.2 (by rw [← hes]; simp)).1
      have heo1 := heo.1
      have hget : ((A ++ e :: B).map (·.1))[((A.length : Nat) : Int).toNat]? = some e.1 := by rw [Int.toNat_natCast]; simp
      have hel2 : ((A.length : Nat) : Int) < ((((A ++ e :: B).map (·.1)).length : Nat) : Int) := by rw [List.length_map, hel]; omega
      have hps : (pvs (A ++ e :: B) = pvs A ++ (Value.slice e.1.1 e.2.length e.1.2.2, e.2) :: pvs B) ∨ ((e.1.1 = none ∧ e.1.2.1 = 0 ∧ e.1.2.2 = 0) ∧ pvs (A ++ e :: B) = pvs A ++ pvs B) := by
        cases hn : e.1.1.isNone with
        | true =>
          have := heo.2.1 (by simpa using hn)
          exact .inr ⟨⟨by rw [this.1], by rw [this.1], by rw [this.1]⟩, by rw [pvs_append, pvs_none hn]⟩
        | false => exact .inl (by rw [pvs_append, pvs_some hn, ← heo.1])
      by_cases q3 : ao = 3 ∨ ao = 4
      · have hl := hloc (by omega) (by omega)
        have l0 := hl.1
        have lw : al < ((cs.w.length : Nat) : Int) := by rw [hwl]; exact hl.2
        have hw0 : cs.w[al.toNat]? = some w0 := by rw [hw00]; exact getW (by omega)
        have hst : Li.runC T (Li.beginC first T) (L.take (m + 1)) = ⟨(cs.w.set al.toNat (a4, a5, a6)), cs.did.set A.length (d + 1), cs.told⟩ := by rw [hstep, if_pos q3, if_neg (show ¬ (ao = 5 ∨ ao = 6) by omega), ← hd]
        by_cases q4 : ao = 3
        · refine onE (beq_iff_eq.2 q4) (onT ?_)
          refine ⟨l0, lw, w0, ((a4, a5, a6) : Li.Wd), hw0, ⟨trivial, trivial, trivial⟩, rfl, Nat.le_refl 3, ?_⟩
          refine ⟨_, wm, (m + 1, ⟨(cs.w.set al.toNat (a4, a5, a6)), cs.did.set A.length (d + 1), cs.told⟩, (A ++ e :: B)), ⟨⟨?_, rfl⟩, ?_, Store.le_refl _⟩, ⟨by show m + 1 ≤ _; omega, hst.symm, ?_, ?_⟩, mu⟩
          · repeat' first | exact trivial | exact rfl | refine And.intro ?_ ?_
          · show [Res.box [.v (.slice fp first.length fc), .v (.slice p T.length c)], Res.row shW 35 (cs.w.set al.toNat (a4, a5, a6)), Res.row shI 3 ((cs.did.map fun i : Nat => (i : Int)).set A.length ((d + 1 : Nat) : Int)), Res.row .slice 22 ((A ++ e :: B).map (·.1)), Res.row shP 58 L, Res.pool shW 35 (pvs (A ++ e :: B))] = [Res.box [.v (.slice fp first.length fc), .v (.slice p T.length c)], Res.row shW 35 (cs.w.set al.toNat (a4, a5, a6)), Res.row shI 3 ((cs.did.set A.length (d + 1)).map fun i : Nat => (i : Int)), Res.row .slice 22 ((A ++ e :: B).map (·.1)), Res.row shP 58 L, Res.pool shW 35 (pvs (A ++ e :: B))]
            rw [map_set_nat]
          · show (A ++ e :: B).map (·.2) = cs.told
            exact hes
          · exact hok
        · refine offE (beq_eq_false_iff_ne.2 q4) (onE (beq_iff_eq.2 (show ao = 4 by omega)) ?_)
          refine ⟨l0, lw, w0, ((a4, a5, a6) : Li.Wd), hw0, ⟨trivial, trivial, trivial⟩, rfl, Nat.le_refl 3, ?_⟩
          refine ⟨_, wm, (m + 1, ⟨(cs.w.set al.toNat (a4, a5, a6)), cs.did.set A.length (d + 1), cs.told⟩, (A ++ e :: B)), ⟨⟨?_, rfl⟩, ?_, Store.le_refl _⟩, ⟨by show m + 1 ≤ _; omega, hst.symm, ?_, ?_⟩, mu⟩
          · repeat' first | exact trivial | exact rfl | refine And.intro ?_ ?_
          · show [Res.box [.v (.slice fp first.length fc), .v (.slice p T.length c)], Res.row shW 35 (cs.w.set al.toNat (a4, a5, a6)), Res.row shI 3 ((cs.did.map fun i : Nat => (i : Int)).set A.length ((d + 1 : Nat) : Int)), Res.row .slice 22 ((A ++ e :: B).map (·.1)), Res.row shP 58 L, Res.pool shW 35 (pvs (A ++ e :: B))] = [Res.box [.v (.slice fp first.length fc), .v (.slice p T.length c)], Res.row shW 35 (cs.w.set al.toNat (a4, a5, a6)), Res.row shI 3 ((cs.did.set A.length (d + 1)).map fun i : Nat => (i : Int)), Res.row .slice 22 ((A ++ e :: B).map (·.1)), Res.row shP 58 L, Res.pool shW 35 (pvs (A ++ e :: B))]
            rw [map_set_nat]
          · show (A ++ e :: B).map (·.2) = cs.told
            exact hes
          · exact hok
      refine offE (beq_eq_false_iff_ne.2 (show ¬ ao = 3 by omega)) (offE (beq_eq_false_iff_ne.2 (show ¬ ao = 4 by omega)) ?_)
      by_cases q5 : ao = 5
      · have hl := hloc (by omega) (by omega)
        have l0 := hl.1
        have lw : al < ((cs.w.length : Nat) : Int) := by rw [hwl]; exact hl.2
        have hw0 : cs.w[al.toNat]? = some w0 := by rw [hw00]; exact getW (by omega)
        have hst : Li.runC T (Li.beginC first T) (L.take (m + 1)) = ⟨cs.w, cs.did.set A.length (d + 1), cs.told.set A.length (cs.told.getD A.length [] ++ [cs.w.getD al.toNat (0, 0, 0)])⟩ := by rw [hstep, if_neg q3, if_neg (show ¬ (ao = 6 ∧ cs.w.getD al.toNat (0, 0, 0) = (a1, a2, a3)) from fun q => by omega), if_pos (.inl q5), ← hd]
        refine onE (beq_iff_eq.2 q5) ?_
        refine ⟨or25_24, [3, 5], oF25_24, by kernel_rfl, ?_⟩
        refine ⟨kz, hel2, e.1, hget, l0, lw, w0, hw0, .inr (.inl ⟨5, ⟨rfl, rfl, rfl⟩, pvs A, pvs B, e.1.1, e.1.2.1, e.1.2.2, e.2, [w0], rfl, Nat.le_of_eq heo.1, hps, ⟨rfl, rfl⟩, fun _ _ => ⟨trivial, trivial, trivial⟩, by show (e.1.2.1 + 1) * 16 ≤ 140737488355328; omega, fun p' c' hf => ⟨kz, hel2, e.1, ((p', e.1.2.1 + 1, c') : Hd), hget, trivial, rfl, Nat.le_refl 1, ?_⟩⟩)⟩
        refine ⟨_, wm, (m + 1, ⟨cs.w, cs.did.set A.length (d + 1), (cs.told.set A.length (cs.told.getD A.length [] ++ [cs.w.getD al.toNat (0, 0, 0)]))⟩, (A ++ (((p', e.1.2.1 + 1, c') : Hd), e.2 ++ [w0]) :: B)), ⟨⟨?_, rfl⟩, ?_, Store.le_refl _⟩, ⟨by show m + 1 ≤ _; omega, hst.symm, ?_, ?_⟩, mu⟩
        · repeat' first | exact trivial | exact rfl | refine And.intro ?_ ?_
        · show [Res.box [.v (.slice fp first.length fc), .v (.slice p T.length c)], Res.row shW 35 cs.w, Res.row shI 3 ((cs.did.map fun i : Nat => (i : Int)).set A.length ((d + 1 : Nat) : Int)), Res.row .slice 22 (((A ++ e :: B).map (·.1)).set A.length ((p', e.1.2.1 + 1, c') : Hd)), Res.row shP 58 L, Res.pool shW 35 (pvs A ++ (Value.slice p' (e.1.2.1 + 1) c', e.2.take e.1.2.1 ++ [w0]) :: pvs B)] = [Res.box [.v (.slice fp first.length fc), .v (.slice p T.length c)], Res.row shW 35 cs.w, Res.row shI 3 ((cs.did.set A.length (d + 1)).map fun i : Nat => (i : Int)), Res.row .slice 22 ((A ++ (((p', e.1.2.1 + 1, c') : Hd), e.2 ++ [w0]) :: B).map (·.1)), Res.row shP 58 L, Res.pool shW 35 (pvs (A ++ (((p', e.1.2.1 + 1, c') : Hd), e.2 ++ [w0]) :: B))]
          rw [map_set_nat, upd_1 A B e ((p', e.1.2.1 + 1, c') : Hd) (e.2 ++ [w0]), heo.1, List.take_length, pvs_append, pvs_some (e := (((p', e.2.length + 1, c') : Hd), e.2 ++ [w0])) (pf_some hf).1]
        · show (A ++ (((p', e.1.2.1 + 1, c') : Hd), e.2 ++ [w0]) :: B).map (·.2) = (cs.told.set A.length (cs.told.getD A.length [] ++ [cs.w.getD al.toNat (0, 0, 0)]))
          rw [upd_2, hes, hw00]
        · exact upd_ok hok hf hw0k
      refine offE (beq_eq_false_iff_ne.2 q5) ?_
      by_cases q6 : ao = 6
      · have hl := hloc (by omega) (by omega)
        have l0 := hl.1
        have lw : al < ((cs.w.length : Nat) : Int) := by rw [hwl]; exact hl.2
        have hw0 : cs.w[al.toNat]? = some w0 := by rw [hw00]; exact getW (by omega)
        refine onE (beq_iff_eq.2 q6) ?_
        refine ⟨or25_26, [3, 5], oF25_26, by kernel_rfl, ?_⟩
        refine ⟨kz, hel2, e.1, hget, l0, lw, w0, hw0, .inr (.inl ⟨5, ⟨rfl, rfl, rfl⟩, pvs A, pvs B, e.1.1, e.1.2.1, e.1.2.2, e.2, [w0], rfl, Nat.le_of_eq heo.1, hps, ⟨rfl, rfl⟩, fun _ _ => ⟨trivial, trivial, trivial⟩, by show (e.1.2.1 + 1) * 16 ≤ 140737488355328; omega, fun p' c' hf => ⟨kz, hel2, e.1, ((p', e.1.2.1 + 1, c') : Hd), hget, trivial, rfl, Nat.le_refl 1, ?_⟩⟩)⟩
        refine ⟨or25_27, [], oF25_27, by kernel_rfl, ?_⟩
        refine ⟨l0, lw, w0, hw0, ?_⟩
        by_cases qe : w0 = (a1, a2, a3)
        · have hst : Li.runC T (Li.beginC first T) (L.take (m + 1)) = ⟨(cs.w.set al.toNat (a4, a5, a6)), cs.did.set A.length (d + 1), cs.told.set A.length (cs.told.getD A.length [] ++ [cs.w.getD al.toNat (0, 0, 0)])⟩ := by rw [hstep, if_neg q3, if_pos ⟨q6, by rw [← hw00]; exact qe⟩, if_pos (.inr q6), ← hd]
          refine onE (by rw [qe]; simp) ?_
          refine ⟨l0, lw, w0, ((a4, a5, a6) : Li.Wd), hw0, ⟨trivial, trivial, trivial⟩, rfl, Nat.le_refl 3, ?_⟩
          refine ⟨_, wm, (m + 1, ⟨(cs.w.set al.toNat (a4, a5, a6)), cs.did.set A.length (d + 1), (cs.told.set A.length (cs.told.getD A.length [] ++ [cs.w.getD al.toNat (0, 0, 0)]))⟩, (A ++ (((p', e.1.2.1 + 1, c') : Hd), e.2 ++ [w0]) :: B)), ⟨⟨?_, rfl⟩, ?_, Store.le_refl _⟩, ⟨by show m + 1 ≤ _; omega, hst.symm, ?_, ?_⟩, mu⟩
          · repeat' first | exact trivial | exact rfl | refine And.intro ?_ ?_
          · show [Res.box [.v (.slice fp first.length fc), .v (.slice p T.length c)], Res.row shW 35 (cs.w.set al.toNat (a4, a5, a6)), Res.row shI 3 ((cs.did.map fun i : Nat => (i : Int)).set A.length ((d + 1 : Nat) : Int)), Res.row .slice 22 (((A ++ e :: B).map (·.1)).set A.length ((p', e.1.2.1 + 1, c') : Hd)), Res.row shP 58 L, Res.pool shW 35 (pvs A ++ (Value.slice p' (e.1.2.1 + 1) c', e.2.take e.1.2.1 ++ [w0]) :: pvs B)] = [Res.box [.v (.slice fp first.length fc), .v (.slice p T.length c)], Res.row shW 35 (cs.w.set al.toNat (a4, a5, a6)), Res.row shI 3 ((cs.did.set A.length (d + 1)).map fun i : Nat => (i : Int)), Res.row .slice 22 ((A ++ (((p', e.1.2.1 + 1, c') : Hd), e.2 ++ [w0]) :: B).map (·.1)), Res.row shP 58 L, Res.pool shW 35 (pvs (A ++ (((p', e.1.2.1 + 1, c') : Hd), e.2 ++ [w0]) :: B))]
            rw [map_set_nat, upd_1 A B e ((p', e.1.2.1 + 1, c') : Hd) (e.2 ++ [w0]), heo.1, List.take_length, pvs_append, pvs_some (e := (((p', e.2.length + 1, c') : Hd), e.2 ++ [w0])) (pf_some hf).1]
          · show (A ++ (((p', e.1.2.1 + 1, c') : Hd), e.2 ++ [w0]) :: B).map (·.2) = (cs.told.set A.length (cs.told.getD A.length [] ++ [cs.w.getD al.toNat (0, 0, 0)]))
            rw [upd_2, hes, hw00]
          · exact upd_ok hok hf hw0k
        · have hst : Li.runC T (Li.beginC first T) (L.take (m + 1)) = ⟨cs.w, cs.did.set A.length (d + 1), cs.told.set A.length (cs.told.getD A.length [] ++ [cs.w.getD al.toNat (0, 0, 0)])⟩ := by rw [hstep, if_neg q3, if_neg (show ¬ (ao = 6 ∧ cs.w.getD al.toNat (0, 0, 0) = (a1, a2, a3)) from fun q => qe (by rw [hw00]; exact q.2)), if_pos (.inr q6), ← hd]
          refine offE (w_ne (b := (a1, a2, a3)) qe) ?_
          refine ⟨_, wm, (m + 1, ⟨cs.w, cs.did.set A.length (d + 1), (cs.told.set A.length (cs.told.getD A.length [] ++ [cs.w.getD al.toNat (0, 0, 0)]))⟩, (A ++ (((p', e.1.2.1 + 1, c') : Hd), e.2 ++ [w0]) :: B)), ⟨⟨?_, rfl⟩, ?_, Store.le_refl _⟩, ⟨by show m + 1 ≤ _; omega, hst.symm, ?_, ?_⟩, mu⟩
          · repeat' first | exact trivial | exact rfl | refine And.intro ?_ ?_
          · show [Res.box [.v (.slice fp first.length fc), .v (.slice p T.length c)], Res.row shW 35 cs.w, Res.row shI 3 ((cs.did.map fun i : Nat => (i : Int)).set A.length ((d + 1 : Nat) : Int)), Res.row .slice 22 (((A ++ e :: B).map (·.1)).set A.length ((p', e.1.2.1 + 1, c') : Hd)), Res.row shP 58 L, Res.pool shW 35 (pvs A ++ (Value.slice p' (e.1.2.1 + 1) c', e.2.take e.1.2.1 ++ [w0]) :: pvs B)] = [Res.box [.v (.slice fp first.length fc), .v (.slice p T.length c)], Res.row shW 35 cs.w, Res.row shI 3 ((cs.did.set A.length (d + 1)).map fun i : Nat => (i : Int)), Res.row .slice 22 ((A ++ (((p', e.1.2.1 + 1, c') : Hd), e.2 ++ [w0]) :: B).map (·.1)), Res.row shP 58 L, Res.pool shW 35 (pvs (A ++ (((p', e.1.2.1 + 1, c') : Hd), e.2 ++ [w0]) :: B))]
            rw [map_set_nat, upd_1 A B e ((p', e.1.2.1 + 1, c') : Hd) (e.2 ++ [w0]), heo.1, List.take_length, pvs_append, pvs_some (e := (((p', e.2.length + 1, c') : Hd), e.2 ++ [w0])) (pf_some hf).1]
          · show (A ++ (((p', e.1.2.1 + 1, c') : Hd), e.2 ++ [w0]) :: B).map (·.2) = (cs.told.set A.length (cs.told.getD A.length [] ++ [cs.w.getD al.toNat (0, 0, 0)]))
            rw [upd_2, hes, hw00]
          · exact upd_ok hok hf hw0k
      have hst : Li.runC T (Li.beginC first T) (L.take (m + 1)) = ⟨cs.w, cs.did.set A.length (d + 1), cs.told⟩ := by rw [hstep, if_neg q3, if_neg (show ¬ (ao = 6 ∧ cs.w.getD al.toNat (0, 0, 0) = (a1, a2, a3)) from fun q => q6 q.1), if_neg (show ¬ (ao = 5 ∨ ao = 6) by omega), ← hd]
      refine offE (beq_eq_false_iff_ne.2 q6) ?_
      refine ⟨_, wm, (m + 1, ⟨cs.w, cs.did.set A.length (d + 1), cs.told⟩, (A ++ e :: B)), ⟨⟨?_, rfl⟩, ?_, Store.le_refl _⟩, ⟨by show m + 1 ≤ _; omega, hst.symm, ?_, ?_⟩, mu⟩
      · repeat' first | exact trivial | exact rfl | refine And.intro ?_ ?_
      · show [Res.box [.v (.slice fp first.length fc), .v (.slice p T.length c)], Res.row shW 35 cs.w, Res.row shI 3 ((cs.did.map fun i : Nat => (i : Int)).set A.length ((d + 1 : Nat) : Int)), Res.row .slice 22 ((A ++ e :: B).map (·.1)), Res.row shP 58 L, Res.pool shW 35 (pvs (A ++ e :: B))] = [Res.box [.v (.slice fp first.length fc), .v (.slice p T.length c)], Res.row shW 35 cs.w, Res.row shI 3 ((cs.did.set A.length (d + 1)).map fun i : Nat => (i : Int)), Res.row .slice 22 ((A ++ e :: B).map (·.1)), Res.row shP 58 L, Res.pool shW 35 (pvs (A ++ e :: B))]
        rw [map_set_nat]
      · show (A ++ e :: B).map (·.2) = cs.told
        exact hes
      · exact hok
    · refine ⟨⟨_, rfl, rfl, rfl⟩, .inr (.inr (.inl fun p5 c5 S5 hS5 hr5 hpf5 => ⟨rfl, fun p6 c6 hpf6 S7 hS7 hpool => ?_⟩))⟩
      have h1 : ¬ (m : Int) < ((L.length : Nat) : Int) := of_decide_eq_false h1
      have hml : m = L.length := by omega
      rw [hml, List.take_length] at hcs
      have hS57 := Store.le_trans hS5 hS7
      have htd : TdIs S7 (p5, es.length, c5) cs.told := by
        rw [← hes]
        exact td_of hok (hr5.le hS7) fun x hx => hpool x (List.mem_append.2 (.inl hx))
      have hwt : WtIs S7 (p6, cs.w.length, c6) cs.w := ⟨rfl, (hpool (.slice p6 cs.w.length c6, cs.w) (List.mem_append.2 (.inr (List.mem_singleton.2 rfl)))).slice.2, hoc.wo⟩
      have hlm : (List.map (fun x : HL => x.1) es).length = es.length := List.length_map ..
      have htx := rtexto_spec S7 (p5, es.length, c5) (p6, cs.w.length, c6) cs.told cs.w htd hwt (by rw [hoc.tl]; omega) (fun y hy => by have := (hoc.rl y hy).1; omega) (by rw [hoc.wl]; omega)
      rw [← hlm] at htx
      refine ⟨_, _, _, htx, fun S8 _ hS8 _ => fun S9 hS9 _ => ⟨rfl, (), ?_, trivial⟩⟩
      show rS _ = rS _
      rw [hcs, hL]; rfl
  · refine ⟨Int.natCast_nonneg _, Int.le_refl _, mk24, mk1, Int.natCast_nonneg _, Int.le_refl _, mk8, mk1, ?_⟩
    refine ⟨l, src_of rfl hqr, fun _ _ => ⟨trivial, trivial, trivial⟩, by show (0 + l.length) * 24 ≤ 140737488355328; omega, ?_⟩
    refine ⟨[], [], Nat, [11] ++ List.range' 28 22, fun i => [(10, rI (i + 1))], fun i => [.box [.v (.slice fp first.length fc), .v (.slice p T.length c)], .row shW 35 first, .row .slice 22 (List.replicate T.length ((none, 0, 0) : Hd)), .row shI 3 (List.replicate T.length (0 : Int)), .row shP 58 (l ++ tk T i)], fun _ => S, fun i => i ≤ T.length, fun i => T.length - i, ?_⟩
    refine And.intro (Exists.intro 0 (And.intro (And.intro (And.intro ?_ rfl) (And.intro ?_ (Store.le_refl _))) (Nat.zero_le _))) ?_
    · repeat' first | exact trivial | exact rfl | refine And.intro ?_ ?_
    · show _ = [Res.box _, Res.row shW 35 first, _, _, Res.row shP 58 (l ++ tk T 0)]
      have : l ++ tk T 0 = l := List.append_nil l
      rw [this]; rfl
    intro i hi
    have hi : i ≤ T.length := hi
    have htk8 := tk_len h8 i
    refine And.intro (fun h1 => ?_) (fun h1 => ?_)
    · have h1 : (i : Int) + 1 ≤ ((T.length : Nat) : Int) := of_decide_eq_true h1
      obtain ⟨⟨yp, yn, yc⟩, y, b, o, hy, hqy, hp, hok, hrd⟩ := hth.at (i := i) (by omega)
      have hyl : yn = y.length := hqy.len
      subst hyl
      have hy8 := h8 y (List.mem_of_getElem? hy)
      have hly := lens_at hy
      refine ⟨[], [], Nat, [28] ++ List.range' 34 16, fun j => [(11, rI j)], fun j => [.box [.v (.slice fp first.length fc), .v (.slice p T.length c)], .row shW 35 first, .row .slice 22 (List.replicate T.length ((none, 0, 0) : Hd)), .row shI 3 (List.replicate T.length (0 : Int)), .row shP 58 (l ++ tk T i ++ reps i j)], fun _ => S, fun j => j ≤ y.length, fun j => y.length - j, ?_⟩
      refine And.intro (Exists.intro 0 (And.intro (And.intro (And.intro ?_ rfl) (And.intro ?_ (Store.le_refl _))) (Nat.zero_le _))) ?_
      · repeat' first | exact trivial | exact rfl | refine And.intro ?_ ?_
      · show _ = [Res.box _, Res.row shW 35 first, _, _, Res.row shP 58 (l ++ tk T i ++ reps i 0)]
        have : l ++ tk T i ++ reps i 0 = l ++ tk T i := List.append_nil _
        rw [this]; rfl
      intro j hj
      have hj : j ≤ y.length := hj
      refine ⟨(i : Int), by rw [wrap_i64 (by omega) (by omega)]; omega, Int.natCast_nonneg _, by show (i : Int) < ((T.length : Nat) : Int); omega, b, o, hp, ((yp, y.length, yc) : Hd), hok, hrd, ?_⟩
      refine And.intro (fun h2 => ?_) (fun h2 => ?_)
      · have h2 : (j : Int) < ((y.length : Nat) : Int) := of_decide_eq_true h2
        refine ⟨[((0, (i : Int) + 1, 0) : Li.Pk)], ⟨rfl, rfl⟩, fun _ _ => ⟨trivial, trivial, trivial⟩, by show ((l ++ tk T i ++ reps i j).length + 1) * 24 ≤ 140737488355328; rw [List.length_append, List.length_append, reps_len]; omega, ?_⟩
        refine ⟨((j + 1 : Nat) : Int), wrap_i64 (by omega) (by omega), j + 1, ⟨⟨?_, rfl⟩, ?_, Store.le_refl _⟩, by show j + 1 ≤ _; omega, by show y.length - (j + 1) < y.length - j; omega⟩
        · repeat' first | exact trivial | exact rfl | refine And.intro ?_ ?_
        · show _ = [Res.box _, Res.row shW 35 first, _, _, Res.row shP 58 (l ++ tk T i ++ reps i (j + 1))]
          rw [reps_succ, ← List.append_assoc]; rfl
      · have h2 : ¬ (j : Int) < ((y.length : Nat) : Int) := of_decide_eq_false h2
        have hjy : j = y.length := by omega
        refine ⟨((i + 1 : Nat) : Int) + 1, by rw [wrap_i64 (by omega) (by omega)]; omega, i + 1, ⟨⟨?_, rfl⟩, ?_, Store.le_refl _⟩, by show i + 1 ≤ _; omega, by show T.length - (i + 1) < T.length - i; omega⟩
        · repeat' first | exact trivial | exact rfl | refine And.intro ?_ ?_
        · show _ = [Res.box _, Res.row shW 35 first, _, _, Res.row shP 58 (l ++ tk T (i + 1))]
          rw [tk_succ, hly, hjy, ← List.append_assoc]; rfl
    have h1 : ¬ (i : Int) + 1 ≤ ((T.length : Nat) : Int) := of_decide_eq_false h1
    have hil : i = T.length := by omega
    subst hil
    obtain ⟨L, hL⟩ : ∃ L, L = l ++ tk T T.length := ⟨_, rfl⟩
    have hLn : L.length ≤ 264 := by
      rw [hL, List.length_append]
      have := tk_len h8 T.length
      omega
    have hLo : ∀ p ∈ L, inI64 p.2.1 := fun p hp => by
      rw [hL] at hp
      rcases List.mem_append.1 hp with hp | hp
      · exact (hq.ok p hp).2.1
      · exact (tk_ok (by omega) p hp).2
    have hb0 := beginC_ok (T := T) f4
    refine ⟨[], [(100000, shW, 35)], Nat × Li.Sc × List HL, [13, 14, 109, 118, 134] ++ List.range' 50 117, fun a => [(12, rI a.1)], fun a => [.box [.v (.slice fp first.length fc), .v (.slice p T.length c)], .row shW 35 a.2.1.w, .row .slice 22 (a.2.2.map (·.1)), .row shI 3 (a.2.1.did.map fun i : Nat => (i : Int)), .row shP 58 L, .pool shW 35 (pvs a.2.2)], fun _ => S, fun a => a.1 ≤ L.length ∧ a.2.1 = Li.runC T (Li.beginC first T) (L.take a.1) ∧ a.2.2.map (·.2) = a.2.1.told ∧ ∀ e ∈ a.2.2, okE e, fun a => L.length - a.1, ?_⟩
    refine And.intro (Exists.intro (0, Li.beginC first T, List.replicate T.length ((none, 0, 0), [])) (And.intro (And.intro (And.intro ?_ rfl) (And.intro ?_ (Store.le_refl _))) ⟨Nat.zero_le _, rfl, ?_, ?_⟩)) ?_
    · repeat' first | exact trivial | exact rfl | refine And.intro ?_ ?_
    · have r1 : ((Li.beginC first T).did.map fun i : Nat => (i : Int)) = List.replicate T.length (0 : Int) := List.map_replicate ..
      have r2 : (List.replicate T.length (((none, 0, 0) : Hd), ([] : List Li.Wd))).map (·.1) = List.replicate T.length ((none, 0, 0) : Hd) := List.map_replicate ..
      show _ = [Res.box _, Res.row shW 35 first, Res.row .slice 22 ((List.replicate T.length (((none, 0, 0) : Hd), ([] : List Li.Wd))).map (·.1)), Res.row shI 3 ((Li.beginC first T).did.map fun i : Nat => (i : Int)), Res.row shP 58 L, Res.pool shW 35 (pvs (List.replicate T.length ((none, 0, 0), [])))]
      rw [r1, r2, pvs_rep, hL]; rfl
    · exact List.map_replicate ..
    · intro e he
      rw [(List.mem_replicate.1 he).2]
      exact ⟨rfl, fun _ => ⟨rfl, rfl⟩, Nat.le_refl _, fun w hw => by cases hw⟩
    rintro ⟨m, cs, es⟩ ⟨hm, hcs, hes, hok⟩
    have hm : m ≤ L.length := hm
    have hcs : cs = Li.runC T (Li.beginC first T) (L.take m) := hcs
    have hes : es.map (·.2) = cs.told := hes
    have hok : ∀ e ∈ es, okE e := hok
    have hoc : okC first.length T m cs := by
      have := runC_ok hTo (L.take m) hb0
      rw [List.length_take, Nat.min_eq_left hm, Nat.zero_add, ← hcs] at this
      exact this
    have hel : es.length = T.length := by have := congrArg List.length hes; rw [List.length_map, hoc.tl] at this; exact this
    refine And.intro (fun h1 => ?_) (fun h1 => ?_)
    · have h1 : (m : Int) < ((L.length : Nat) : Int) := of_decide_eq_true h1
      obtain ⟨pk, hpk⟩ : ∃ pk, L[m]? = some pk := ⟨_, List.getElem?_eq_getElem (by omega)⟩
      have hpo := hLo pk (List.mem_of_getElem? hpk)
      have hrun := runC_succ (T := T) (c := Li.beginC first T) hpk
      rw [← hcs] at hrun
      obtain ⟨pa, pb, pc⟩ := pk
      have hpo : inI64 pb := hpo
      obtain ⟨t, ht, htc⟩ := wrap_pred hpo
      have skip : Li.pickC T cs (pa, pb, pc) = cs → (m + 1 ≤ L.length ∧ cs = Li.runC T (Li.beginC first T) (L.take (m + 1)) ∧ es.map (·.2) = cs.told ∧ ∀ e ∈ es, okE e) := fun h => ⟨by omega, by rw [hrun, h], hes, hok⟩
      have m0 : (0 : Int) ≤ ((m : Nat) : Int) := Int.natCast_nonneg _
      have mu : L.length - (m + 1) < L.length - m := by omega
      have wm : IntKind.i64.wrap ((m : Int) + 1) = ((m + 1 : Nat) : Int) := wrap_i64 (by omega) (by omega)
      refine ⟨m0, h1, ((pa, pb, pc) : Li.Pk), hpk, t, ht, ?_⟩
      refine ⟨or25_16, [], oF25_16, by kernel_rfl, ?_⟩
      refine ⟨m0, h1, ((pa, pb, pc) : Li.Pk), hpk, ?_⟩
      by_cases k0 : ¬ pa = 0
      · refine onE (bne_iff_ne.2 k0) ?_
        repeat refine onT ?_
        refine ⟨_, wm, (m + 1, cs, es), ⟨⟨?_, rfl⟩, rfl, Store.le_refl _⟩, skip (if_neg fun q => k0 q.1), mu⟩
        repeat' first | exact trivial | exact rfl | refine And.intro ?_ ?_
      have k0 : pa = 0 := Decidable.not_not.1 k0
      refine offE (bne_eq_false_iff_eq.2 k0) ?_
      by_cases k1 : t < 0
      · refine onE (decide_eq_true k1) ?_
        repeat refine onT ?_
        refine ⟨_, wm, (m + 1, cs, es), ⟨⟨?_, rfl⟩, rfl, Store.le_refl _⟩, skip (if_neg fun q => by have q2 : 1 ≤ pb := q.2; omega), mu⟩
        repeat' first | exact trivial | exact rfl | refine And.intro ?_ ?_
      refine offE (decide_eq_false k1) ?_
      by_cases k2 : t ≥ ((T.length : Nat) : Int)
      · refine onE (decide_eq_true k2) ?_
        repeat refine onT ?_
        refine ⟨_, wm, (m + 1, cs, es), ⟨⟨?_, rfl⟩, rfl, Store.le_refl _⟩, skip ?_, mu⟩
        · repeat' first | exact trivial | exact rfl | refine And.intro ?_ ?_
        · unfold Li.pickC
          by_cases q : ¬ (pa = 0 ∧ 1 ≤ pb)
          · exact if_neg q
          have q := Decidable.not_not.1 q
          have q2 := q.2
          rw [if_pos q]
          show Li.stepC T cs (pb - 1).toNat = cs
          have hkb : T.length ≤ (pb - 1).toNat := by omega
          exact stepC_none (by unfold Li.actC; rw [List.getD_eq_getElem?_getD, List.getElem?_eq_none hkb]; rfl)
      refine offE (decide_eq_false k2) ?_
      have hpb : 1 ≤ pb ∧ t = pb - 1 := by omega
      obtain ⟨k, hk⟩ : ∃ k, k = t.toNat := ⟨_, rfl⟩
      have htk : t = (k : Int) := by omega
      have hkT : k < T.length := by omega
      have hpick : Li.pickC T cs (pa, pb, pc) = Li.stepC T cs k := by
        unfold Li.pickC
        rw [if_pos ⟨k0, hpb.1⟩]
        show Li.stepC T cs (pb - 1).toNat = _
        congr 1; omega
      subst htk
      obtain ⟨⟨yp, yn, yc⟩, y, b, o, hy, hqy, hp, hyok, hrd⟩ := hth.at (i := k) hkT
      obtain ⟨hyl, hyc, hyr, hyo⟩ := acts_row hqy
      have hyl : yn = y.length := hyl
      subst hyl
      have hyr : RowRd S yp shA (y.map axOf) := hyr
      have hyT : T.getD k [] = y := by rw [List.getD_eq_getElem?_getD, hy]; rfl
      have hy6 := hg.six y (List.mem_of_getElem? hy)
      obtain ⟨d, hd⟩ : ∃ d, d = cs.did.getD k 0 := ⟨_, rfl⟩
      have hdk : cs.did[k]? = some d := by rw [hd, List.getD_eq_getElem?_getD, List.getElem?_eq_getElem (by rw [hoc.dl]; exact hkT)]; rfl
      have hdm : (cs.did.map fun i : Nat => (i : Int))[(k : Int).toNat]? = some (d : Int) := by rw [Int.toNat_natCast, List.getElem?_map, hdk]; rfl
      have hdl : (k : Int) < (((cs.did.map fun i : Nat => (i : Int)).length : Nat) : Int) := by rw [List.length_map, hoc.dl]; omega
      have hd8 : d ≤ y.length := by have := hoc.dm k hkT; rw [hyT, ← hd] at this; exact this
      have kT : (k : Int) < ((T.length : Nat) : Int) := by omega
      have kz : (0 : Int) ≤ (k : Int) := Int.natCast_nonneg _
      refine ⟨kz, hdl, (d : Int), hdm, kz, kT, b, o, hp, ((yp, y.length, yc) : Hd), hyok, fun S' hle _ => Store.rd_le hle hrd, ?_⟩
      by_cases k3 : (d : Int) ≥ ((y.length : Nat) : Int)
      · refine onE (decide_eq_true k3) ?_
        refine ⟨_, wm, (m + 1, cs, es), ⟨⟨?_, rfl⟩, rfl, Store.le_refl _⟩, skip ?_, mu⟩
        · repeat' first | exact trivial | exact rfl | refine And.intro ?_ ?_
        · rw [hpick]
          exact stepC_none (by unfold Li.actC; rw [hyT, ← hd]; exact List.getElem?_eq_none (by omega))
      refine offE (decide_eq_false k3) ?_
      obtain ⟨a, ha⟩ : ∃ a, y[d]? = some a := ⟨_, List.getElem?_eq_getElem (by omega)⟩
      have hact : Li.actC T cs k = some a := by unfold Li.actC; rw [hyT, ← hd]; exact ha
      obtain ⟨b3, o3, e3, ok3, hr3⟩ := row_at hyr (i := d) (x := axOf a) (by rw [List.getElem?_map, ha]; rfl)
      have haok := hyo a (List.mem_of_getElem? ha)
      have hstep := stepC_some hact
      rw [← hpick, ← hrun] at hstep
      have hloc := (hg.ok y (List.mem_of_getElem? hy) a (List.mem_of_getElem? ha)).2.2
      obtain ⟨ao, al, ⟨a1, a2, a3⟩, a4, a5, a6⟩ := a
      refine ⟨or25_17, [6], oF25_17, by kernel_rfl, ?_⟩
      refine ⟨kz, kT, b, o, hp, ((yp, y.length, yc) : Hd), hyok, fun S' hle _ => Store.rd_le hle hrd, kz, hdl, (d : Int), hdm, Int.natCast_nonneg _, by show (d : Int) < ((y.length : Nat) : Int); omega, b3, o3, e3, ((ao, al, (a1, a2, a3), a4, a5, a6) : Ax), ok3, fun S' hle _ => Store.rd_le hle hr3, ?_⟩
      refine ⟨kz, hdl, (d : Int), hdm, ((d + 1 : Nat) : Int), wrap_i64 (by omega) (by omega), kz, hdl, (d : Int), ((d + 1 : Nat) : Int), hdm, trivial, rfl, Nat.le_refl 1, ?_⟩
      have hloc : ao ≠ 0 → ao ≠ 8 → 0 ≤ al ∧ al < ((first.length : Nat) : Int) := hloc
      obtain ⟨w0, hw00⟩ : ∃ w0, w0 = cs.w.getD al.toNat (0, 0, 0) := ⟨_, rfl⟩
      have hwl := hoc.wl
      have hw0k : okW w0 := by rw [hw00]; exact getD_ok hoc.wo _
      obtain ⟨A, e, B, hes0, hAl⟩ := split_at (l := es) (k := k) (by rw [hel]; exact hkT)
      subst hes0 hAl
      have heo := hok e (by simp)
      have hew : e.2.length ≤ m := (hoc.rl e.2 (by rw [← hes]; simp)).1
      have heo1 := heo.1
      have hget : ((A ++ e :: B).map (·.1))[((A.length : Nat) : Int).toNat]? = some e.1 := by rw [Int.toNat_natCast]; simp
      have hel2 : ((A.length : Nat) : Int) < ((((A ++ e :: B).map (·.1)).length : Nat) : Int) := by rw [List.length_map, hel]; omega
      have hps : (pvs (A ++ e :: B) = pvs A ++ (Value.slice e.1.1 e.2.length e.1.2.2, e.2) :: pvs B) ∨ ((e.1.1 = none ∧ e.1.2.1 = 0 ∧ e.1.2.2 = 0) ∧ pvs (A ++ e :: B) = pvs A ++ pvs B) := by
        cases hn : e.1.1.isNone with
        | true =>
          have := heo.2.1 (by simpa using hn)
          exact .inr ⟨⟨by rw [this.1], by rw [this.1], by rw [this.1]⟩, by rw [pvs_append, pvs_none hn]⟩
        | false => exact .inl (by rw [pvs_append, pvs_some hn, ← heo.1])
      by_cases q3 : ao = 3 ∨ ao = 4
      · have hl := hloc (by omega) (by omega)
        have l0 := hl.1
        have lw : al < ((cs.w.length : Nat) : Int) := by rw [hwl]; exact hl.2
        have hw0 : cs.w[al.toNat]? = some w0 := by rw [hw00]; exact getW (by omega)
        have hst : Li.runC T (Li.beginC first T) (L.take (m + 1)) = ⟨(cs.w.set al.toNat (a4, a5, a6)), cs.did.set A.length (d + 1), cs.told⟩ := by rw [hstep, if_pos q3, if_neg (show ¬ (ao = 5 ∨ ao = 6) by omega), ← hd]
        by_cases q4 : ao = 3
        · refine onE (beq_iff_eq.2 q4) (onT ?_)
          refine ⟨l0, lw, w0, ((a4, a5, a6) : Li.Wd), hw0, ⟨trivial, trivial, trivial⟩, rfl, Nat.le_refl 3, ?_⟩
          refine ⟨_, wm, (m + 1, ⟨(cs.w.set al.toNat (a4, a5, a6)), cs.did.set A.length (d + 1), cs.told⟩, (A ++ e :: B)), ⟨⟨?_, rfl⟩, ?_, Store.le_refl _⟩, ⟨by show m + 1 ≤ _; omega, hst.symm, ?_, ?_⟩, mu⟩
          · repeat' first | exact trivial | exact rfl | refine And.intro ?_ ?_
          · show [Res.box [.v (.slice fp first.length fc), .v (.slice p T.length c)], Res.row shW 35 (cs.w.set al.toNat (a4, a5, a6)), Res.row .slice 22 ((A ++ e :: B).map (·.1)), Res.row shI 3 ((cs.did.map fun i : Nat => (i : Int)).set A.length ((d + 1 : Nat) : Int)), Res.row shP 58 L, Res.pool shW 35 (pvs (A ++ e :: B))] = [Res.box [.v (.slice fp first.length fc), .v (.slice p T.length c)], Res.row shW 35 (cs.w.set al.toNat (a4, a5, a6)), Res.row .slice 22 ((A ++ e :: B).map (·.1)), Res.row shI 3 ((cs.did.set A.length (d + 1)).map fun i : Nat => (i : Int)), Res.row shP 58 L, Res.pool shW 35 (pvs (A ++ e :: B))]
            rw [map_set_nat]
          · show (A ++ e :: B).map (·.2) = cs.told
            exact hes
          · exact hok
        · refine offE (beq_eq_false_iff_ne.2 q4) (onE (beq_iff_eq.2 (show ao = 4 by omega)) ?_)
          refine ⟨l0, lw, w0, ((a4, a5, a6) : Li.Wd), hw0, ⟨trivial, trivial, trivial⟩, rfl, Nat.le_refl 3, ?_⟩
          refine ⟨_, wm, (m + 1, ⟨(cs.w.set al.toNat (a4, a5, a6)), cs.did.set A.length (d + 1), cs.told⟩, (A ++ e :: B)), ⟨⟨?_, rfl⟩, ?_, Store.le_refl _⟩, ⟨by show m + 1 ≤ _; omega, hst.symm, ?_, ?_⟩, mu⟩
          · repeat' first | exact trivial | exact rfl | refine And.intro ?_ ?_
          · show [Res.box [.v (.slice fp first.length fc), .v (.slice p T.length c)], Res.row shW 35 (cs.w.set al.toNat (a4, a5, a6)), Res.row .slice 22 ((A ++ e :: B).map (·.1)), Res.row shI 3 ((cs.did.map fun i : Nat => (i : Int)).set A.length ((d + 1 : Nat) : Int)), Res.row shP 58 L, Res.pool shW 35 (pvs (A ++ e :: B))] = [Res.box [.v (.slice fp first.length fc), .v (.slice p T.length c)], Res.row shW 35 (cs.w.set al.toNat (a4, a5, a6)), Res.row .slice 22 ((A ++ e :: B).map (·.1)), Res.row shI 3 ((cs.did.set A.length (d + 1)).map fun i : Nat => (i : Int)), Res.row shP 58 L, Res.pool shW 35 (pvs (A ++ e :: B))]
            rw [map_set_nat]
          · show (A ++ e :: B).map (·.2) = cs.told
            exact hes
          · exact hok
      refine offE (beq_eq_false_iff_ne.2 (show ¬ ao = 3 by omega)) (offE (beq_eq_false_iff_ne.2 (show ¬ ao = 4 by omega)) ?_)
      by_cases q5 : ao = 5
      · have hl := hloc (by omega) (by omega)
        have l0 := hl.1
        have lw : al < ((cs.w.length : Nat) : Int) := by rw [hwl]; exact hl.2
        have hw0 : cs.w[al.toNat]? = some w0 := by rw [hw00]; exact getW (by omega)
        have hst : Li.runC T (Li.beginC first T) (L.take (m + 1)) = ⟨cs.w, cs.did.set A.length (d + 1), cs.told.set A.length (cs.told.getD A.length [] ++ [cs.w.getD al.toNat (0, 0, 0)])⟩ := by rw [hstep, if_neg q3, if_neg (show ¬ (ao = 6 ∧ cs.w.getD al.toNat (0, 0, 0) = (a1, a2, a3)) from fun q => by omega), if_pos (.inl q5), ← hd]
        refine onE (beq_iff_eq.2 q5) ?_
        refine ⟨or25_24, [2, 5], oF25_24, by kernel_rfl, ?_⟩
        refine ⟨kz, hel2, e.1, hget, l0, lw, w0, hw0, .inr (.inl ⟨5, ⟨rfl, rfl, rfl⟩, pvs A, pvs B, e.1.1, e.1.2.1, e.1.2.2, e.2, [w0], rfl, Nat.le_of_eq heo.1, hps, ⟨rfl, rfl⟩, fun _ _ => ⟨trivial, trivial, trivial⟩, by show (e.1.2.1 + 1) * 16 ≤ 140737488355328; omega, fun p' c' hf => ⟨kz, hel2, e.1, ((p', e.1.2.1 + 1, c') : Hd), hget, trivial, rfl, Nat.le_refl 1, ?_⟩⟩)⟩
        refine ⟨_, wm, (m + 1, ⟨cs.w, cs.did.set A.length (d + 1), (cs.told.set A.length (cs.told.getD A.length [] ++ [cs.w.getD al.toNat (0, 0, 0)]))⟩, (A ++ (((p', e.1.2.1 + 1, c') : Hd), e.2 ++ [w0]) :: B)), ⟨⟨?_, rfl⟩, ?_, Store.le_refl _⟩, ⟨by show m + 1 ≤ _; omega, hst.symm, ?_, ?_⟩, mu⟩
        · repeat' first | exact trivial | exact rfl | refine And.intro ?_ ?_
        · show [Res.box [.v (.slice fp first.length fc), .v (.slice p T.length c)], Res.row shW 35 cs.w, Res.row .slice 22 (((A ++ e :: B).map (·.1)).set A.length ((p', e.1.2.1 + 1, c') : Hd)), Res.row shI 3 ((cs.did.map fun i : Nat => (i : Int)).set A.length ((d + 1 : Nat) : Int)), Res.row shP 58 L, Res.pool shW 35 (pvs A ++ (Value.slice p' (e.1.2.1 + 1) c', e.2.take e.1.2.1 ++ [w0]) :: pvs B)] = [Res.box [.v (.slice fp first.length fc), .v (.slice p T.length c)], Res.row shW 35 cs.w, Res.row .slice 22 ((A ++ (((p', e.1.2.1 + 1, c') : Hd), e.2 ++ [w0]) :: B).map (·.1)), Res.row shI 3 ((cs.did.set A.length (d + 1)).map fun i : Nat => (i : Int)), Res.row shP 58 L, Res.pool shW 35 (pvs (A ++ (((p', e.1.2.1 + 1, c') : Hd), e.2 ++ [w0]) :: B))]
          rw [map_set_nat, upd_1 A B e ((p', e.1.2.1 + 1, c') : Hd) (e.2 ++ [w0]), heo.1, List.take_length, pvs_append, pvs_some (e := (((p', e.2.length + 1, c') : Hd), e.2 ++ [w0])) (pf_some hf).1]
        · show (A ++ (((p', e.1.2.1 + 1, c') : Hd), e.2 ++ [w0]) :: B).map (·.2) = (cs.told.set A.length (cs.told.getD A.length [] ++ [cs.w.getD al.toNat (0, 0, 0)]))
          rw [upd_2, hes, hw00]
        · exact upd_ok hok hf hw0k
      refine offE (beq_eq_false_iff_ne.2 q5) ?_
      by_cases q6 : ao = 6
      · have hl := hloc (by omega) (by omega)
        have l0 := hl.1
        have lw : al < ((cs.w.length : Nat) : Int) := by rw [hwl]; exact hl.2
        have hw0 : cs.w[al.toNat]? = some w0 := by rw [hw00]; exact getW (by omega)
        refine onE (beq_iff_eq.2 q6) ?_
        refine ⟨or25_26, [2, 5], oF25_26, by kernel_rfl, ?_⟩
        refine ⟨kz, hel2, e.1, hget, l0, lw, w0, hw0, .inr (.inl ⟨5, ⟨rfl, rfl, rfl⟩, pvs A, pvs B, e.1.1, e.1.2.1, e.1.2.2, e.2, [w0], rfl, Nat.le_of_eq heo.1, hps, ⟨rfl, rfl⟩, fun _ _ => ⟨trivial, trivial, trivial⟩, by show (e.1.2.1 + 1) * 16 ≤ 140737488355328; omega, fun p' c' hf => ⟨kz, hel2, e.1, ((p', e.1.2.1 + 1, c') : Hd), hget, trivial, rfl, Nat.le_refl 1, ?_⟩⟩)⟩
        refine ⟨or25_27, [], oF25_27, by kernel_rfl, ?_⟩
        refine ⟨l0, lw, w0, hw0, ?_⟩
        by_cases qe : w0 = (a1, a2, a3)
        · have hst : Li.runC T (Li.beginC first T) (L.take (m + 1)) = ⟨(cs.w.set al.toNat (a4, a5, a6)), cs.did.set A.length (d + 1), cs.told.set A.length (cs.told.getD A.length [] ++ [cs.w.getD al.toNat (0, 0, 0)])⟩ := by rw [hstep, if_neg q3, if_pos ⟨q6, by rw [← hw00]; exact qe⟩, if_pos (.inr q6), ← hd]
          refine onE (by rw [qe]; simp) ?_
          refine ⟨l0, lw, w0, ((a4, a5, a6) : Li.Wd), hw0, ⟨trivial, trivial, trivial⟩, rfl, Nat.le_refl 3, ?_⟩
          refine ⟨_, wm, (m + 1, ⟨(cs.w.set al.toNat (a4, a5, a6)), cs.did.set A.length (d + 1), (cs.told.set A.length (cs.told.getD A.length [] ++ [cs.w.getD al.toNat (0, 0, 0)]))⟩, (A ++ (((p', e.1.2.1 + 1, c') : Hd), e.2 ++ [w0]) :: B)), ⟨⟨?_, rfl⟩, ?_, Store.le_refl _⟩, ⟨by show m + 1 ≤ _; omega, hst.symm, ?_, ?_⟩, mu⟩
          · repeat' first | exact trivial | exact rfl | refine And.intro ?_ ?_
          · show [Res.box [.v (.slice fp first.length fc), .v (.slice p T.length c)], Res.row shW 35 (cs.w.set al.toNat (a4, a5, a6)), Res.row .slice 22 (((A ++ e :: B).map (·.1)).set A.length ((p', e.1.2.1 + 1, c') : Hd)), Res.row shI 3 ((cs.did.map fun i : Nat => (i : Int)).set A.length ((d + 1 : Nat) : Int)), Res.row shP 58 L, Res.pool shW 35 (pvs A ++ (Value.slice p' (e.1.2.1 + 1) c', e.2.take e.1.2.1 ++ [w0]) :: pvs B)] = [Res.box [.v (.slice fp first.length fc), .v (.slice p T.length c)], Res.row shW 35 (cs.w.set al.toNat (a4, a5, a6)), Res.row .slice 22 ((A ++ (((p', e.1.2.1 + 1, c') : Hd), e.2 ++ [w0]) :: B).map (·.1)), Res.row shI 3 ((cs.did.set A.length (d + 1)).map fun i : Nat => (i : Int)), Res.row shP 58 L, Res.pool shW 35 (pvs (A ++ (((p', e.1.2.1 + 1, c') : Hd), e.2 ++ [w0]) :: B))]
            rw [map_set_nat, upd_1 A B e ((p', e.1.2.1 + 1, c') : Hd) (e.2 ++ [w0]), heo.1, List.take_length, pvs_append, pvs_some (e := (((p', e.2.length + 1, c') : Hd), e.2 ++ [w0])) (pf_some hf).1]
          · show (A ++ (((p', e.1.2.1 + 1, c') : Hd), e.2 ++ [w0]) :: B).map (·.2) = (cs.told.set A.length (cs.told.getD A.length [] ++ [cs.w.getD al.toNat (0, 0, 0)]))
            rw [upd_2, hes, hw00]
          · exact upd_ok hok hf hw0k
        · have hst : Li.runC T (Li.beginC first T) (L.take (m + 1)) = ⟨cs.w, cs.did.set A.length (d + 1), cs.told.set A.length (cs.told.getD A.length [] ++ [cs.w.getD al.toNat (0, 0, 0)])⟩ := by rw [hstep, if_neg q3, if_neg (show ¬ (ao = 6 ∧ cs.w.getD al.toNat (0, 0, 0) = (a1, a2, a3)) from fun q => qe (by rw [hw00]; exact q.2)), if_pos (.inr q6), ← hd]
          refine offE (w_ne (b := (a1, a2, a3)) qe) ?_
          refine ⟨_, wm, (m + 1, ⟨cs.w, cs.did.set A.length (d + 1), (cs.told.set A.length (cs.told.getD A.length [] ++ [cs.w.getD al.toNat (0, 0, 0)]))⟩, (A ++ (((p', e.1.2.1 + 1, c') : Hd), e.2 ++ [w0]) :: B)), ⟨⟨?_, rfl⟩, ?_, Store.le_refl _⟩, ⟨by show m + 1 ≤ _; omega, hst.symm, ?_, ?_⟩, mu⟩
          · repeat' first | exact trivial | exact rfl | refine And.intro ?_ ?_
          · show [Res.box [.v (.slice fp first.length fc), .v (.slice p T.length c)], Res.row shW 35 cs.w, Res.row .slice 22 (((A ++ e :: B).map (·.1)).set A.length ((p', e.1.2.1 + 1, c') : Hd)), Res.row shI 3 ((cs.did.map fun i : Nat => (i : Int)).set A.length ((d + 1 : Nat) : Int)), Res.row shP 58 L, Res.pool shW 35 (pvs A ++ (Value.slice p' (e.1.2.1 + 1) c', e.2.take e.1.2.1 ++ [w0]) :: pvs B)] = [Res.box [.v (.slice fp first.length fc), .v (.slice p T.length c)], Res.row shW 35 cs.w, Res.row .slice 22 ((A ++ (((p', e.1.2.1 + 1, c') : Hd), e.2 ++ [w0]) :: B).map (·.1)), Res.row shI 3 ((cs.did.set A.length (d + 1)).map fun i : Nat => (i : Int)), Res.row shP 58 L, Res.pool shW 35 (pvs (A ++ (((p', e.1.2.1 + 1, c') : Hd), e.2 ++ [w0]) :: B))]
            rw [map_set_nat, upd_1 A B e ((p', e.1.2.1 + 1, c') : Hd) (e.2 ++ [w0]), heo.1, List.take_length, pvs_append, pvs_some (e := (((p', e.2.length + 1, c') : Hd), e.2 ++ [w0])) (pf_some hf).1]
          · show (A ++ (((p', e.1.2.1 + 1, c') : Hd), e.2 ++ [w0]) :: B).map (·.2) = (cs.told.set A.length (cs.told.getD A.length [] ++ [cs.w.getD al.toNat (0, 0, 0)]))
            rw [upd_2, hes, hw00]
          · exact upd_ok hok hf hw0k
      have hst : Li.runC T (Li.beginC first T) (L.take (m + 1)) = ⟨cs.w, cs.did.set A.length (d + 1), cs.told⟩ := by rw [hstep, if_neg q3, if_neg (show ¬ (ao = 6 ∧ cs.w.getD al.toNat (0, 0, 0) = (a1, a2, a3)) from fun q => q6 q.1), if_neg (show ¬ (ao = 5 ∨ ao = 6) by omega), ← hd]
      refine offE (beq_eq_false_iff_ne.2 q6) ?_
      refine ⟨_, wm, (m + 1, ⟨cs.w, cs.did.set A.length (d + 1), cs.told⟩, (A ++ e :: B)), ⟨⟨?_, rfl⟩, ?_, Store.le_refl _⟩, ⟨by show m + 1 ≤ _; omega, hst.symm, ?_, ?_⟩, mu⟩
      · repeat' first | exact trivial | exact rfl | refine And.intro ?_ ?_
      · show [Res.box [.v (.slice fp first.length fc), .v (.slice p T.length c)], Res.row shW 35 cs.w, Res.row .slice 22 ((A ++ e :: B).map (·.1)), Res.row shI 3 ((cs.did.map fun i : Nat => (i : Int)).set A.length ((d + 1 : Nat) : Int)), Res.row shP 58 L, Res.pool shW 35 (pvs (A ++ e :: B))] = [Res.box [.v (.slice fp first.length fc), .v (.slice p T.length c)], Res.row shW 35 cs.w, Res.row .slice 22 ((A ++ e :: B).map (·.1)), Res.row shI 3 ((cs.did.set A.length (d + 1)).map fun i : Nat => (i : Int)), Res.row shP 58 L, Res.pool shW 35 (pvs (A ++ e :: B))]
        rw [map_set_nat]
      · show (A ++ e :: B).map (·.2) = cs.told
        exact hes
      · exact hok
    · refine ⟨⟨_, rfl, rfl, rfl⟩, .inr (.inr (.inl fun p5 c5 S5 hS5 hr5 hpf5 => ⟨rfl, fun p6 c6 hpf6 S7 hS7 hpool => ?_⟩))⟩
      have h1 : ¬ (m : Int) < ((L.length : Nat) : Int) := of_decide_eq_false h1
      have hml : m = L.length := by omega
      rw [hml, List.take_length] at hcs
      have hS57 := Store.le_trans hS5 hS7
      have htd : TdIs S7 (p5, es.length, c5) cs.told := by
        rw [← hes]
        exact td_of hok (hr5.le hS7) fun x hx => hpool x (List.mem_append.2 (.inl hx))
      have hwt : WtIs S7 (p6, cs.w.length, c6) cs.w := ⟨rfl, (hpool (.slice p6 cs.w.length c6, cs.w) (List.mem_append.2 (.inr (List.mem_singleton.2 rfl)))).slice.2, hoc.wo⟩
      have hlm : (List.map (fun x : HL => x.1) es).length = es.length := List.length_map ..
      have htx := rtexto_spec S7 (p5, es.length, c5) (p6, cs.w.length, c6) cs.told cs.w htd hwt (by rw [hoc.tl]; omega) (fun y hy => by have := (hoc.rl y hy).1; omega) (by rw [hoc.wl]; omega)
      rw [← hlm] at htx
      refine ⟨_, _, _, htx, fun S8 _ hS8 _ => fun S9 hS9 _ => ⟨rfl, (), ?_, trivial⟩⟩
      show rS _ = rS _
      rw [hcs, hL]; rfl
end Go.Proofs.YtapblcfbmaikjaaGreatDoor
