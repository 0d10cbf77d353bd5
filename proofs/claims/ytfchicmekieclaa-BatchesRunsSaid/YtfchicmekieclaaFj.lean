/- law54: Batch. -/
import Derived.Test.YtfchicmekieclaaFi
namespace Go.Proofs.Ytfchicmekieclaa
open Go Go.Vc
set_option maxRecDepth 100000

/-- A key, its row's header, its row. -/
abbrev KR := Int × Hd × List O
@[reducible] def rk (r : KR) : Int := r.1
@[reducible] def rm (r : KR) : Int × Hd := (r.1, r.2.1)
@[reducible] def rp (r : KR) : Value × List O := (Value.slice r.2.1.1 r.2.1.2.1 r.2.1.2.2, r.2.2)

theorem keys_len (l : List O) : (keysOf l).length ≤ l.length := by
  have key : ∀ (l : List O) (ks : List Int), (l.foldl keyStep ks).length ≤ ks.length + l.length := by
    intro l
    induction l with
    | nil => intro ks; simp
    | cons o l ih =>
      intro ks
      have h1 := ih (keyStep ks o)
      have h2 : (keyStep ks o).length ≤ ks.length + 1 := by unfold keyStep; split <;> simp
      simp only [List.foldl_cons, List.length_cons]
      omega
  simpa [keysOf] using key l []

/-- The last place of a stack. -/
def lastOf : List O → Int
  | [] => -1
  | _ :: xs => ((xs.length : Nat) : Int)
theorem lastOf_eq (xs : List O) : lastOf xs = (xs.length : Int) - 1 := by cases xs <;> simp [lastOf] <;> omega

theorem flat_len (l : List O) (ks : List Int) (h : ks.Nodup) : (ks.flatMap (rowOf l)).length ≤ l.length := by
  have h1 : (ks.flatMap (rowOf l)).length = (ks.map fun k => (rowOf l k).length).sum := by simp [List.length_flatMap]
  have h2 : ∀ (ks : List Int), (ks.map fun k => (rowOf l k).length).sum ≤ (ks.map fun k => (l.filter (on k)).length).sum := by
    intro ks
    induction ks with
    | nil => simp
    | cons k ks ih =>
      simp only [List.map_cons, List.sum_cons]
      have : (rowOf l k).length ≤ (l.filter (on k)).length := by
        have := stack_len (l.filter (on k)) []
        simpa [rowOf, stackOf] using this
      omega
  have h3 := sum_filter l ks h
  have h4 := h2 ks
  omega

/-- What is known of the rows behind the first i operations. -/
def RowsOk (l : List O) (i : Nat) (rows : List KR) : Prop := rows.map rk = keysOf (l.take i) ∧ ∀ r ∈ rows, r.2.2 = rowOf (l.take i) r.1 ∧ r.2.1.2.1 = r.2.2.length ∧ PForm r.2.1.1 r.2.1.2.1 r.2.1.2.2

theorem rows_next {l : List O} {i : Nat} {x : O} (hx : l[i]? = some x) (hlive : live x.1 = true) {r : KR} (hr : r.2.2 = rowOf (l.take i) r.1 ∧ r.2.1.2.1 = r.2.2.length ∧ PForm r.2.1.1 r.2.1.2.1 r.2.1.2.2) (hne : r.1 ≠ x.2.1) :
    r.2.2 = rowOf (l.take (i + 1)) r.1 ∧ r.2.1.2.1 = r.2.2.length ∧ PForm r.2.1.1 r.2.1.2.1 r.2.1.2.2 := by
  refine ⟨?_, hr.2⟩
  have : ¬ on r.1 x = true := by
    unfold on
    rw [hlive]
    simp only [Bool.true_and, beq_iff_eq]
    exact fun e => hne e.symm
  rw [List.take_add_one, hx, hr.1]
  show _ = (stackOf (l.take i ++ [x]) r.1).reverse
  rw [stackOf_snoc, if_neg this]
  rfl

theorem row_cases {l : List O} {i : Nat} {x : O} (hx : l[i]? = some x) (hlive : live x.1 = true) {rows : List KR} (h : RowsOk l i rows) :
    ∃ (P0 : Option Addr) (c0 : Nat) (pre post : List (Value × List O)) (mkr : Hd → List O → List KR),
      (mget (.int .i64) (rows.map rm) x.2.1).getD (none, 0, 0) = (P0, (stackOf (l.take i) x.2.1).length, c0) ∧ PForm P0 (stackOf (l.take i) x.2.1).length c0 ∧
      (rows.map rp = pre ++ (Value.slice P0 (stackOf (l.take i) x.2.1).reverse.length c0, (stackOf (l.take i) x.2.1).reverse) :: post ∨ ((P0 = none ∧ (stackOf (l.take i) x.2.1).length = 0 ∧ c0 = 0) ∧ rows.map rp = pre ++ post)) ∧
      (bif (mget (.int .i64) (rows.map rm) x.2.1).isSome then rows.map rk else rows.map rk ++ [x.2.1]) = keysOf (l.take (i + 1)) ∧
      ∀ (h : Hd) (w : List O), (mkr h w).map rm = mset (.int .i64) (rows.map rm) x.2.1 h ∧ (mkr h w).map rk = keysOf (l.take (i + 1)) ∧ (mkr h w).map rp = pre ++ (Value.slice h.1 h.2.1 h.2.2, w) :: post ∧
        (w = rowOf (l.take (i + 1)) x.2.1 → h.2.1 = w.length → PForm h.1 h.2.1 h.2.2 → RowsOk l (i + 1) (mkr h w)) := by
  obtain ⟨hks, hrows⟩ := h
  have hnd : (rows.map rk).Nodup := by rw [hks]; exact (keys_nodup _).1
  have hk1 : keysOf (l.take (i + 1)) = keyStep (keysOf (l.take i)) x := by rw [List.take_add_one, hx]; exact keysOf_snoc _ _
  have hmk : ∀ rows : List KR, (rows.map rm).map (·.1) = rows.map rk := fun rows => by rw [List.map_map]; rfl
  by_cases hmem : x.2.1 ∈ rows.map rk
  · obtain ⟨r, hr, hrk⟩ := List.mem_map.1 hmem
    obtain ⟨A, B, rfl⟩ := List.append_of_mem hr
    have honce : keysOnce (k := .int .i64) ((A ++ r :: B).map rm) := by unfold keysOnce; rw [hmk]; exact hnd
    have hrm : (A ++ r :: B).map rm = A.map rm ++ (x.2.1, r.2.1) :: B.map rm := by
      rw [List.map_append, List.map_cons, ← hrk]
    have hget : mget (.int .i64) ((A ++ r :: B).map rm) x.2.1 = some r.2.1 := by
      rw [hrm]
      exact mget_mid (k := .int .i64) rfl (p := (x.2.1, r.2.1)) (by rw [← hrm]; exact honce)
    obtain ⟨h1, h2, h3⟩ := hrows r hr
    have hw : r.2.2 = (stackOf (l.take i) x.2.1).reverse := by rw [h1, ← hrk]; rfl
    have hlen : r.2.1.2.1 = (stackOf (l.take i) x.2.1).length := by rw [h2, hw, List.length_reverse]
    have hkk : keysOf (l.take (i + 1)) = (A ++ r :: B).map rk := by rw [hk1, ← hks, keyStep_mem hmem]
    have hne : ∀ u ∈ A ++ B, u.1 ≠ x.2.1 := by
      intro u hu e
      rw [List.map_append, List.map_cons, List.nodup_append, List.nodup_cons] at hnd
      have hrk' : rk r = u.1 := hrk.trans e.symm
      rcases List.mem_append.1 hu with hu | hu
      · exact hnd.2.2 u.1 (List.mem_map.2 ⟨u, hu, rfl⟩) (rk r) (by simp) hrk'.symm
      · exact hnd.2.1.1 (by rw [hrk']; exact List.mem_map.2 ⟨u, hu, rfl⟩)
    refine ⟨r.2.1.1, r.2.1.2.2, A.map rp, B.map rp, fun h w => A ++ (x.2.1, h, w) :: B, ?_, ?_, .inl ?_, ?_, fun h w => ⟨?_, ?_, ?_, fun e1 e2 e3 => ⟨?_, ?_⟩⟩⟩
    · rw [hget, ← hlen]; rfl
    · rw [← hlen]; exact h3
    · rw [List.map_append, List.map_cons, List.length_reverse, ← hlen, ← hw]
    · rw [hget, hkk]; rfl
    · rw [hrm, mset_mid (k := .int .i64) rfl (by rw [← hrm]; exact honce), List.map_append, List.map_cons]
    · rw [hkk, List.map_append, List.map_cons, List.map_append, List.map_cons, hrk]
    · rw [List.map_append, List.map_cons]
    · rw [hkk, List.map_append, List.map_cons, List.map_append, List.map_cons, hrk]
    · intro u hu
      rcases List.mem_append.1 hu with hu | hu
      · exact rows_next hx hlive (hrows u (by simp [hu])) (hne u (by simp [hu]))
      · rcases List.mem_cons.1 hu with rfl | hu
        · exact ⟨e1, e2, e3⟩
        · exact rows_next hx hlive (hrows u (by simp [hu])) (hne u (by simp [hu]))
  · have hget : mget (.int .i64) (rows.map rm) x.2.1 = none := (mget_none (k := .int .i64) rfl).2 (by rw [hmk]; exact hmem)
    have hst : stackOf (l.take i) x.2.1 = [] := by
      rw [hks, (keys_nodup _).2] at hmem
      have : (l.take i).filter (on x.2.1) = [] := by
        rw [List.filter_eq_nil_iff]
        exact fun o ho hon => hmem ⟨o, ho, hon⟩
      unfold stackOf
      rw [this]; rfl
    have hkk : keysOf (l.take (i + 1)) = rows.map rk ++ [x.2.1] := by rw [hk1, ← hks, keyStep, if_pos ⟨hlive, hmem⟩]
    refine ⟨none, 0, rows.map rp, [], fun h w => rows ++ [(x.2.1, h, w)], ?_, ?_, .inr ⟨⟨rfl, ?_, rfl⟩, ?_⟩, ?_, fun h w => ⟨?_, ?_, ?_, fun e1 e2 e3 => ⟨?_, ?_⟩⟩⟩
    · rw [hget, hst]; rfl
    · rw [hst]; exact .inl ⟨rfl, rfl, rfl⟩
    · rw [hst]; rfl
    · rw [List.append_nil]
    · rw [hget, hkk]; rfl
    · rw [mset_new (k := .int .i64) rfl (by rw [hmk]; exact hmem), List.map_append]; rfl
    · rw [hkk, List.map_append]; rfl
    · rw [List.map_append]; rfl
    · rw [hkk, List.map_append]; rfl
    · intro u hu
      rcases List.mem_append.1 hu with hu | hu
      · refine rows_next hx hlive (hrows u hu) (fun e => hmem ?_)
        rw [← e]; exact List.mem_map.2 ⟨u, hu, rfl⟩
      · simp only [List.mem_singleton] at hu
        subst hu
        exact ⟨e1, e2, e3⟩

set_option maxHeartbeats 8000000 in
theorem batch_spec (S : Store) (p : Hd) (l : List O) (hl : l.length = p.2.1) (hr : RowRd S p.1 shO l) (hn : l.length ≤ 1000000) :
    Pure Try.prog 19 S [slV p] (A := Hd) (fun q => .c (.v (slV q))) (fun S' q => q.2.1 = (batch l).length ∧ RowRd S' q.1 shO (batch l)) := by
  obtain ⟨p, n, c⟩ := p
  simp only at hl hr
  subst hl
  refine pure_vc agrees Try.func19 rfl rfl (fun S S' q hle ⟨h1, h2⟩ => ⟨h1, h2.le hle⟩) ?_
  refine ⟨[], [(3, .int .i64, 2), (100000, shO, 33)], Nat × List KR, [5, 6, 7, 8, 9, 10, 11, 12, 13, 14, 19, 20, 21, 22, 23, 24, 25, 26, 27, 28, 29, 30, 31, 32, 33, 34, 35, 36, 37, 38, 39, 40, 41, 42, 43, 44, 45, 46, 47, 48, 49, 50, 51, 52, 53, 54, 55, 56, 57, 58, 59, 60, 61, 62, 63, 64, 65, 66, 67, 68, 69],
    fun a => [(3, .c (.ref 1)), (18, .c (.v (.int .i64 a.1)))], fun a => [.map (.int .i64) .slice (a.2.map rm), .row (.int .i64) 2 (a.2.map rk), .pool shO 33 (a.2.map rp)], fun _ => S,
    fun a => a.1 ≤ l.length ∧ RowsOk l a.1 a.2, fun a => l.length - a.1, ?_⟩
  refine And.intro (Exists.intro (0, []) (And.intro (And.intro (And.intro ?_ rfl) (And.intro rfl (Store.le_refl _))) ⟨Nat.zero_le _, rfl, by simp⟩)) ?_
  · repeat' first | exact trivial | exact rfl | refine And.intro ?_ ?_
  rintro ⟨i, rows⟩ ⟨hi, hR⟩
  simp only at hi hR
  refine And.intro (fun h => ?_) (fun h => ?_)
  · have hil : i < l.length := by simpa using h
    have hx : l[i]? = some l[i] := List.getElem?_eq_getElem hil
    obtain ⟨b, o, hp, hok, hrd⟩ := row_at hr hx
    have htake : l.take (i + 1) = l.take i ++ [l[i]] := by rw [List.take_add_one, hx]; rfl
    have i0 : (0 : Int) ≤ (i : Int) := Int.natCast_nonneg _
    have i1 : (i : Int) < (l.length : Int) := by omega
    have hw : IntKind.i64.wrap ((i : Int) + 1) = ((i + 1 : Nat) : Int) := wrap_i64 (by omega) (by omega)
    have hm : l.length - (i + 1) < l.length - i := by omega
    refine ⟨i0, i1, b, o, hp, l[i], hok, fun S' hle _ => Store.rd_le hle hrd, ⟨_, rfl, rfl, rfl⟩, .inl ⟨_, _, _, makes_spec _ _, fun S1 _ hS1 _ => ⟨mk_fn _, ?_⟩⟩⟩
    refine And.intro (fun h3 => ?_) (fun h3 => ?_)
    · have hdead : live l[i].1 = false := by
        have : isNilFunc (mk l[i].1) = true := h3
        rw [mk_nil] at this
        simpa using this
      refine ⟨((i + 1 : Nat) : Int), hw, (i + 1, rows), ⟨⟨?_, rfl⟩, rfl, hS1⟩, ⟨hil, ?_, ?_⟩, hm⟩
      · repeat' first | exact trivial | exact rfl | refine And.intro ?_ ?_
      · show rows.map rk = keysOf (l.take (i + 1))
        rw [htake, keysOf_snoc, keyStep, if_neg (by simp [hdead]), hR.1]
      · intro r hr'
        obtain ⟨h4, h5, h6⟩ := hR.2 r hr'
        refine ⟨?_, h5, h6⟩
        show r.2.2 = rowOf (l.take (i + 1)) r.1
        rw [htake, rowOf, stackOf_snoc, if_neg (by simp [on, hdead])]
        exact h4
    · have hlive : live l[i].1 = true := by
        have : isNilFunc (mk l[i].1) = false := h3
        rw [mk_nil] at this
        simpa using this
      obtain ⟨P0, c0, pre, post, mkr, hget, hpf, halt, hKS, hmkr⟩ := row_cases hx hlive hR
      generalize hst : stackOf (l.take i) l[i].2.1 = st at hget hpf halt
      have hstl : st.length ≤ l.length := by
        rw [← hst]
        have h1 := stack_len ((l.take i).filter (on l[i].2.1)) []
        have h2 := List.length_filter_le (on l[i].2.1) (l.take i)
        have h4 : (l.take i).length ≤ l.length := by rw [List.length_take]; omega
        simp only [stackOf, List.length_nil] at h1 ⊢
        omega
      have hrl : (rows.map rk).length ≤ l.length := by rw [hR.1]; exact Nat.le_trans (keys_len _) (by rw [List.length_take]; omega)
      refine ⟨l[i].2.1, ((none, 0, 0) : Hd), rfl, rfl, ?_⟩
      rw [show (mget (.int .i64) (List.map rm ((i, rows) : Nat × List KR).2) l[i].2.1).getD ((none, 0, 0) : Hd) = (P0, st.length, c0) from hget]
      have hwl : IntKind.i64.wrap ((st.length : Int) - 1) = lastOf st := by rw [lastOf_eq]; exact wrap_i64 (by omega) (by omega)
      refine And.intro (fun h4 => ?_) (fun h4 => ?_)
      have hsome : (mget (.int .i64) (rows.map rm) l[i].2.1).isSome = false := by have : (!(mget (.int .i64) (rows.map rm) l[i].2.1).isSome) = true := h4; simpa using this
      rw [hsome] at hKS
      refine ⟨[l[i].2.1], ⟨rfl, rfl⟩, fun _ _ => trivial, (show ((rows.map rk).length + 1) * 8 ≤ 140737488355328 by omega), _, hwl, ?_⟩
      rotate_left 1
      have hsome : (mget (.int .i64) (rows.map rm) l[i].2.1).isSome = true := by have : (!(mget (.int .i64) (rows.map rm) l[i].2.1).isSome) = false := h4; simpa using this
      rw [hsome] at hKS
      refine ⟨_, hwl, ?_⟩
      all_goals
        have hon : on l[i].2.1 l[i] = true := on_key hlive
        have hT : rowOf (l.take (i + 1)) l[i].2.1 = (pushR st l[i]).reverse := by
          rw [htake, rowOf, stackOf_snoc, if_pos hon, hst]
        have hston : ∀ x ∈ st, on l[i].2.1 x = true := by
          intro x hx
          exact rowOf_on (l.take i) l[i].2.1 x (by unfold rowOf; rw [hst]; simpa using hx)
        clear hrd hok h3 h4 hsome
        refine ⟨[], [], O × List O, [5, 8, 9, 10, 11, 12, 13, 14, 19, 20, 21, 22, 23, 24, 25, 26, 27, 28, 29, 30, 31, 32, 33, 34, 35, 36, 37, 38, 39, 40, 41, 42, 43, 44, 45, 46, 47, 48, 49, 50, 51, 52, 53, 54, 55, 56, 57, 58, 59, 60, 61, 62, 63, 64, 65, 66, 67, 68, 69], fun a => [(7, .c (.v (.slice P0 a.2.length c0))), (9, .c (.v (.int .i64 (lastOf a.2))))],
          fun a => [.map (.int .i64) .slice (rows.map rm), .row (.int .i64) 2 (keysOf (l.take (i + 1))), .pool shO 33 (rows.map rp), .box [.v (.int .i64 a.1.1), .v (.int .i64 a.1.2.1), .v (.int .i64 a.1.2.2)]], fun _ => S1,
          fun a => pushR a.2 a.1 = pushR st l[i] ∧ on l[i].2.1 a.1 = true ∧ (∀ x ∈ a.2, on l[i].2.1 x = true) ∧ a.2.length ≤ st.length ∧ st.reverse.take a.2.length = a.2.reverse, fun a => a.2.length, ?_⟩
        refine And.intro (Exists.intro (l[i], st) (And.intro (And.intro (And.intro ?_ rfl) (And.intro ?_ (Store.le_refl _))) ⟨rfl, hon, hston, Nat.le_refl _, ?_⟩)) ?_
        · repeat' first | exact trivial | exact rfl | refine And.intro ?_ ?_
        · exact congrArg (fun K => [Res.map (.int .i64) .slice (rows.map rm), Res.row (.int .i64) 2 K, Res.pool shO 33 (rows.map rp), Res.box [.v (.int .i64 l[i].1), .v (.int .i64 l[i].2.1), .v (.int .i64 l[i].2.2)]]) hKS
        · exact List.take_of_length_le (by simp)
        rintro ⟨q, xs⟩ ⟨hq, hqon, hxon, hxl, hxt⟩
        simp only at hq hqon hxon hxl hxt
        have hqk : q.2.1 = l[i].2.1 := by simp only [on, Bool.and_eq_true, beq_iff_eq] at hqon; exact hqon.2
        have hend : ∀ (p' : Option Addr) (c' : Nat), PForm p' (xs.length + 1) c' → q :: xs = pushR st l[i] → RowsOk l (i + 1) (mkr (p', xs.length + 1, c') (st.reverse.take xs.length ++ [q])) := by
          intro p' c' hf he
          refine (hmkr _ _).2.2.2 ?_ ?_ hf
          · rw [hT, ← he, hxt, List.reverse_cons]
          · rw [hxt]; simp
        have halt' : rows.map rp = pre ++ (Value.slice P0 st.reverse.length c0, st.reverse) :: post ∨ ((P0 = none ∧ xs.length = 0 ∧ c0 = 0) ∧ rows.map rp = pre ++ post) := by
          rcases halt with h | ⟨⟨h1, h2, h3⟩, h4⟩
          · exact .inl h
          · exact .inr ⟨⟨h1, by omega, h3⟩, h4⟩
        have hxl' : xs.length ≤ st.reverse.length := by rw [List.length_reverse]; exact hxl
        have hby : (xs.length + 1) * 24 ≤ 140737488355328 := by omega
        rcases xs with _ | ⟨x, xs⟩
        · refine onF ?_
          refine ⟨.of [0, 1, 2, 3, 4, 5, 6, 7], [0, 2], [], by kernel_rfl, .inr ⟨2, ⟨rfl, rfl, rfl⟩, pre, post, P0, ([] : List O).length, c0, st.reverse, [q], rfl, hxl', halt', ⟨rfl, rfl⟩, fun _ _ => ⟨trivial, trivial, trivial⟩, hby, fun p' c' hf => ?_⟩⟩
          refine ⟨q.2.1, (p', ([] : List O).length + 1, c'), rfl, rfl, trivial, ((i + 1 : Nat) : Int), hw, (i + 1, mkr (p', ([] : List O).length + 1, c') (st.reverse.take ([] : List O).length ++ [q])), ⟨⟨?_, rfl⟩, ?_, hS1⟩, ⟨hil, hend p' c' hf hq⟩, hm⟩
          · repeat' first | exact trivial | exact rfl | refine And.intro ?_ ?_
          · obtain ⟨k1, k2, k3, -⟩ := hmkr (p', ([] : List O).length + 1, c') (st.reverse.take ([] : List O).length ++ [q])
            show [Res.map (.int .i64) .slice (mset (.int .i64) (rows.map rm) q.2.1 (p', ([] : List O).length + 1, c')), Res.row (.int .i64) 2 (keysOf (l.take (i + 1))), Res.pool shO 33 (pre ++ (Value.slice p' (([] : List O).length + 1) c', st.reverse.take ([] : List O).length ++ [q]) :: post)] = [Res.map (.int .i64) .slice ((mkr (p', ([] : List O).length + 1, c') (st.reverse.take ([] : List O).length ++ [q])).map rm), Res.row (.int .i64) 2 ((mkr (p', ([] : List O).length + 1, c') (st.reverse.take ([] : List O).length ++ [q])).map rk), Res.pool shO 33 ((mkr (p', ([] : List O).length + 1, c') (st.reverse.take ([] : List O).length ++ [q])).map rp)]
            rw [k1, k2, k3, hqk]
        · refine ⟨fun _ => ?_, fun h => absurd h (by simp [lastOf])⟩
          have hst1 : xs.length + 1 ≤ st.length := by simpa using hxl
          obtain ⟨g, hP, hcap⟩ : ∃ g, P0 = some ⟨g, 0, none⟩ ∧ st.length ≤ c0 := by
            rcases hpf with ⟨_, h0, _⟩ | h
            · omega
            · exact h
          have hat : st.reverse[xs.length]? = some x := by
            have h1 : (st.reverse.take (xs.length + 1))[xs.length]? = st.reverse[xs.length]? := by rw [List.getElem?_take]; simp
            have h2 : st.reverse.take (xs.length + 1) = (x :: xs).reverse := hxt
            rw [← h1, h2, List.reverse_cons, List.getElem?_append_right (by simp)]
            simp
          have hentry : rows.map rp = pre ++ (Value.slice P0 st.reverse.length c0, st.reverse) :: post := by
            rcases halt with h | ⟨⟨_, h0, _⟩, _⟩
            · exact h
            · omega
          have x0 : (0 : Int) ≤ ((xs.length : Nat) : Int) := Int.natCast_nonneg _
          have x1 : ((xs.length : Nat) : Int) < (((x :: xs).length : Nat) : Int) := by simp; omega
          have hrdx : ∀ S', S1.le S' → poolsRd [Res.map (.int .i64) .slice (rows.map rm), .row (.int .i64) 2 (keysOf (l.take (i + 1))), .pool shO 33 (rows.map rp), .box [.v (.int .i64 q.1), .v (.int .i64 q.2.1), .v (.int .i64 q.2.2)]] S' → S'.rd g (0 + ((xs.length : Nat) : Int).toNat * ti33.sz) (shO.enc x) := by
            intro S' _ hpl
            have h1 := (hpl.1 (Value.slice P0 st.reverse.length c0, st.reverse) (by rw [hentry]; simp)).slice.2
            obtain ⟨b', o', h2, h3, h4⟩ := row_at h1 hat
            rw [hP] at h2
            simp only [Option.some.injEq, Addr.mk.injEq, and_true] at h2
            obtain ⟨rfl, rfl⟩ := h2
            exact h4
          have hxm : ∀ z ∈ xs, on l[i].2.1 z = true := fun z hz => hxon z (by simp [hz])
          refine ⟨or19_13, [4], oF19_13, by kernel_rfl, x0, x1, g, 0, hP, x, ⟨trivial, trivial, trivial⟩, hrdx, ⟨⟨_, rfl, rfl, rfl⟩, .inl ⟨_, _, _, merge_spec _ x q, fun S2 y hS2 hy => ?_⟩⟩, ⟨⟨_, rfl, rfl, rfl⟩, .inl ⟨_, _, _, merge_spec _ x q, fun S2 y hS2 hy => ?_⟩⟩, trivial⟩
          all_goals
            have hy' : y = merge x q := hy
            clear hy
            subst hy'
            refine And.intro (fun e4 => ?_) (fun e4 => ?_)
            · have e4' : (merge x q).2 = false := by have : (!(merge x q).2) = true := e4; simpa using this
              have he : q :: x :: xs = pushR st l[i] := by rw [← hq, pushR, e4']; rfl
              refine ⟨.of [0, 1, 2, 3, 4, 5, 6, 7], [0, 2], [], by kernel_rfl, .inr ⟨2, ⟨rfl, rfl, rfl⟩, pre, post, P0, (x :: xs).length, c0, st.reverse, [q], rfl, hxl', halt', ⟨rfl, rfl⟩, fun _ _ => ⟨trivial, trivial, trivial⟩, hby, fun p' c' hf => ?_⟩⟩
              refine ⟨q.2.1, (p', (x :: xs).length + 1, c'), rfl, rfl, trivial, ((i + 1 : Nat) : Int), hw, (i + 1, mkr (p', (x :: xs).length + 1, c') (st.reverse.take (x :: xs).length ++ [q])), ⟨⟨?_, rfl⟩, ?_, Store.le_trans hS1 hS2⟩, ⟨hil, hend p' c' hf he⟩, hm⟩
              · repeat' first | exact trivial | exact rfl | refine And.intro ?_ ?_
              · obtain ⟨k1, k2, k3, -⟩ := hmkr (p', (x :: xs).length + 1, c') (st.reverse.take (x :: xs).length ++ [q])
                show [Res.map (.int .i64) .slice (mset (.int .i64) (rows.map rm) q.2.1 (p', (x :: xs).length + 1, c')), Res.row (.int .i64) 2 (keysOf (l.take (i + 1))), Res.pool shO 33 (pre ++ (Value.slice p' ((x :: xs).length + 1) c', st.reverse.take (x :: xs).length ++ [q]) :: post)] = [Res.map (.int .i64) .slice ((mkr (p', (x :: xs).length + 1, c') (st.reverse.take (x :: xs).length ++ [q])).map rm), Res.row (.int .i64) 2 ((mkr (p', (x :: xs).length + 1, c') (st.reverse.take (x :: xs).length ++ [q])).map rk), Res.pool shO 33 ((mkr (p', (x :: xs).length + 1, c') (st.reverse.take (x :: xs).length ++ [q])).map rp)]
                rw [k1, k2, k3, hqk]
            · have e4' : (merge x q).2 = true := by have : (!(merge x q).2) = false := e4; simpa using this
              refine ⟨or19_15, [3], oF19_15, by kernel_rfl, x0, ?_, ?_⟩
              · show ((xs.length : Nat) : Int).toNat ≤ c0
                rw [Int.toNat_natCast]; omega
              obtain ⟨g1, g2⟩ := merge_key e4'
              have hxk := hxon x (by simp)
              simp only [on, Bool.and_eq_true, beq_iff_eq] at hxk
              refine ⟨lastOf xs, ?_, ((merge x q).1, xs), ⟨⟨?_, rfl⟩, rfl, hS2⟩, ⟨?_, ?_, hxm, Nat.le_of_succ_le hst1, ?_⟩, ?_⟩
              · show IntKind.i64.wrap (((xs.length : Nat) : Int) - 1) = _
                rw [lastOf_eq]
                exact wrap_i64 (by omega) (by omega)
              · repeat' first | exact trivial | exact rfl | refine And.intro ?_ ?_
              · rw [← hq, pushR, e4']; rfl
              · simp [on, g1, g2, hxk.2]
              · have h2 : st.reverse.take (xs.length + 1) = (x :: xs).reverse := hxt
                have h3 := congrArg (List.take xs.length) h2
                rw [List.take_take, Nat.min_eq_left (by omega), List.reverse_cons, List.take_left' (by simp)] at h3
                exact h3
              · show xs.length < (x :: xs).length
                simp
  · have hil : i = l.length := by have : ¬ i < l.length := by simpa using h
                                  omega
    subst hil
    rw [RowsOk, List.take_length] at hR
    obtain ⟨hks, hrows⟩ := hR
    have hnd : (rows.map rk).Nodup := by rw [hks]; exact (keys_nodup _).1
    have hkl : (rows.map rk).length ≤ l.length := by rw [hks]; exact keys_len l
    refine ⟨[], [(12, shO, 33)], Nat, [14, 73, 74, 75, 76, 77, 78, 79, 80, 81], fun j => [(12, .c (.ref 3)), (72, .c (.v (.int .i64 j)))],
      fun j => [.map (.int .i64) .slice (rows.map rm), .row (.int .i64) 2 (rows.map rk), .pool shO 33 (rows.map rp), .row shO 33 (((rows.map rk).take j).flatMap (rowOf l))], fun _ => S, fun j => j ≤ (rows.map rk).length, fun j => (rows.map rk).length - j, ?_⟩
    refine And.intro (Exists.intro 0 (And.intro (And.intro (And.intro ?_ rfl) (And.intro rfl (Store.le_refl _))) (Nat.zero_le _))) ?_
    · repeat' first | exact trivial | exact rfl | refine And.intro ?_ ?_
    intro j hj
    refine And.intro (fun h5 => ?_) (fun h5 => ?_)
    · have hjl : j < (rows.map rk).length := by simpa using h5
      have hjr : j < rows.length := by simpa using hjl
      have j0 : (0 : Int) ≤ (j : Int) := Int.natCast_nonneg _
      have j1 : (j : Int) < ((rows.map rk).length : Int) := by omega
      have hat : (rows.map rk)[(j : Int).toNat]? = some (rk rows[j]) := by
        rw [Int.toNat_natCast, List.getElem?_map, List.getElem?_eq_getElem hjr]; rfl
      have hmem : rows[j] ∈ rows := List.getElem_mem _
      obtain ⟨e1, e2, e3⟩ := hrows _ hmem
      have hget : (mget (.int .i64) (rows.map rm) (rk rows[j])).getD ((none, 0, 0) : Hd) = rows[j].2.1 := by
        rw [(mget_some (k := .int .i64) rfl (v := rows[j].2.1) (by unfold keysOnce; rw [List.map_map]; exact hnd)).2 (List.mem_map.2 ⟨rows[j], hmem, rfl⟩)]
        rfl
      refine ⟨j0, j1, rk rows[j], hat, rk rows[j], ((none, 0, 0) : Hd), rfl, rfl, ?_⟩
      rw [hget]
      have hlen1 : (((rows.map rk).take j).flatMap (rowOf l)).length ≤ l.length := flat_len l _ ((List.take_sublist _ _).nodup hnd)
      have hlen2 : rows[j].2.2.length ≤ l.length := by
        rw [e1]
        have h1 := stack_len (l.filter (on rows[j].1)) []
        have h2 := List.length_filter_le (on rows[j].1) l
        simp only [rowOf, stackOf, List.length_reverse, List.length_nil] at h1 ⊢
        omega
      refine ⟨rows[j].2.2, ⟨e2, ?_⟩, fun _ _ => ⟨trivial, trivial, trivial⟩, ?_, ((j + 1 : Nat) : Int), wrap_i64 (by omega) (by omega), j + 1, ⟨⟨?_, rfl⟩, ?_, Store.le_refl _⟩, hjl, ?_⟩
      · by_cases hz : rows[j].2.2 = []
        · left
          rw [hz] at e2
          exact e2
        · right
          intro S' _ hpl
          have h1 := (hpl.1 (rp rows[j]) (List.mem_map.2 ⟨rows[j], hmem, rfl⟩)).slice.2
          rcases h1.1 with h2 | h2
          · exact absurd h2 hz
          · exact h2
      · show ((((rows.map rk).take j).flatMap (rowOf l)).length + rows[j].2.2.length) * 24 ≤ 140737488355328
        omega
      · repeat' first | exact trivial | exact rfl | refine And.intro ?_ ?_
      · show [Res.map (.int .i64) .slice (rows.map rm), .row (.int .i64) 2 (rows.map rk), .pool shO 33 (rows.map rp), Res.row shO 33 (((rows.map rk).take j).flatMap (rowOf l) ++ rows[j].2.2)] = [Res.map (.int .i64) .slice (rows.map rm), .row (.int .i64) 2 (rows.map rk), .pool shO 33 (rows.map rp), Res.row shO 33 (((rows.map rk).take (j + 1)).flatMap (rowOf l))]
        rw [Int.toNat_natCast] at hat
        rw [List.take_add_one, hat, List.flatMap_append, e1]
        simp
      · show (rows.map rk).length - (j + 1) < (rows.map rk).length - j
        omega
    · refine fun S1 h1 hp1 q cap S2 h2 hr2 => And.intro rfl (Exists.intro (q, _, _) (And.intro rfl ?_))
      have hjl : j = (rows.map rk).length := by have : ¬ j < (rows.map rk).length := by simpa using h5
                                                omega
      subst hjl
      rw [List.take_length, hks] at hr2 ⊢
      exact ⟨rfl, hr2⟩
end Go.Proofs.Ytfchicmekieclaa
