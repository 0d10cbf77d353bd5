/- law54: Apply, twice; Same. -/
import Derived.Test.YtfchicmekieclaaFc
namespace Go.Proofs.Ytfchicmekieclaa
open Go Go.Vc
set_option maxRecDepth 100000

/-- One operation on a map's answers; some. -/
def app1 (f : Int → Option Int) (o : O) : Int → Option Int := fun k => bif live o.1 then (if k = o.2.1 then some (eff o.1 ((f o.2.1).getD 0) o.2.2) else f k) else f k
def app (f : Int → Option Int) (l : List O) : Int → Option Int := l.foldl app1 f

theorem app_take {f : Int → Option Int} {l : List O} {i : Nat} {x : O} (hx : l[i]? = some x) : app f (l.take (i + 1)) = app1 (app f (l.take i)) x := by
  unfold app
  rw [List.take_add_one, hx, List.foldl_append]
  rfl

theorem app1_dead {f : Int → Option Int} {o : O} (h : live o.1 = false) : app1 f o = f := by
  funext k; simp [app1, h]
theorem get_put (m : M) (k v x : Int) : get (put m k v) x = if x = k then some v else get m x := by
  have := mget_mset (k := .int .i64) rfl m k v x
  simp only [get, put]
  rw [this]
  by_cases h : x = k
  · rw [if_pos ((key_eq (k := .int .i64) rfl x k).2 h), if_pos h]
  · rw [if_neg (fun e => h ((key_eq (k := .int .i64) rfl x k).1 e)), if_neg h]

set_option maxHeartbeats 2000000 in
theorem apply_spec (S : Store) (b : Option Nat) (src : M) (hm : MapRd S b (.int .i64) (.int .i64) src) (hs : once src) (p : Option Addr × Nat × Nat) (l : List O) (hl : l.length = p.2.1) (hr : RowRd S p.1 shO l) (hn : l.length ≤ 1000000) :
    Pure Try.prog 13 S [.map b, slV p] (A := Option Nat) (fun q => .c (.v (.map q))) (fun S' q => ∃ es : M, MapRd S' q (.int .i64) (.int .i64) es ∧ once es ∧ ∀ k, get es k = app (get src) l k) := by
  obtain ⟨p, n, c⟩ := p
  simp only at hl hr
  subst hl
  refine pure_vc agrees Try.func13 rfl rfl (fun S S' q hle h => let ⟨es, h1, h2⟩ := h; ⟨es, h1.le hle, h2⟩) ?_
  refine ⟨⟨_, rfl, rfl, rfl⟩, .inr (.inl ⟨[0], M, _, _, _, rfl, copy_spec S b src hm hs [] once_nil, fun S1 es hS1 hes => ?_⟩)⟩
  refine ⟨[], [], Nat × M, [7, 8, 16, 17, 18, 19, 20, 21, 22, 23, 24, 25, 26, 27, 28, 29, 30, 31, 32, 33, 34, 35], fun a => [(15, .c (.v (.int .i64 a.1)))], fun a => [.map (.int .i64) (.int .i64) a.2], fun _ => S1,
    fun a => a.1 ≤ l.length ∧ once a.2 ∧ ∀ k, get a.2 k = app (get src) (l.take a.1) k, fun a => l.length - a.1, ?_⟩
  refine And.intro (Exists.intro (0, es) (And.intro (And.intro (And.intro ?_ rfl) (And.intro rfl (Store.le_refl _))) ⟨Nat.zero_le _, hes.1, fun k => ?_⟩)) ?_
  · repeat' first | exact trivial | exact rfl | refine And.intro ?_ ?_
  · have := hes.2 k
    show get es k = app (get src) [] k
    rw [this]
    show (get src k).or none = get src k
    simp
  rintro ⟨i, cur⟩ ⟨hi, h1, h2⟩
  refine And.intro (fun h => ?_) (fun h => ?_)
  · have hil : i < l.length := by simpa using h
    have hx : l[i]? = some l[i] := List.getElem?_eq_getElem hil
    obtain ⟨b, o, hp, hok, hrd⟩ := row_at (hr.le hS1) hx
    refine ⟨Int.natCast_nonneg _, by simpa using h, b, o, hp, l[i], hok, hrd, ?_⟩
    refine ⟨⟨_, rfl, rfl, rfl⟩, .inl ⟨_, _, _, makes_spec _ _, fun S2 _ hS2 _ => ⟨mk_fn _, ?_⟩⟩⟩
    refine And.intro (fun h3 => ?_) (fun h3 => ?_)
    · refine ⟨.of [0, 1, 2, 3, 4, 5, 6, 8, 9, 7, 10, 11], [0], [7], by kernel_rfl, ?_⟩
      have hlive : live l[i].1 = true := by
        have : (!(isNilFunc (mk l[i].1))) = true := h3
        rw [mk_nil] at this
        simpa using this
      obtain ⟨g, hg, hent, hcall⟩ := mk_call hlive
      refine ⟨l[i].2.1, (0 : Int), rfl, rfl, g, #[], #[], hg, by simp, by simp, hent, .inl ⟨_, _, _, hcall _ _ _, fun S3 x hS3 hx3 => ?_⟩⟩
      refine ⟨l[i].2.1, x, rfl, rfl, trivial, ((i + 1 : Nat) : Int), wrap_i64 (by omega) (by omega), (i + 1, put cur l[i].2.1 x), ⟨⟨?_, rfl⟩, rfl, Store.le_trans hS2 hS3⟩, ⟨hil, once_mset rfl h1 _ _, fun k => ?_⟩, ?_⟩
      · repeat' first | exact trivial | exact rfl | refine And.intro ?_ ?_
      · show get (put cur l[i].2.1 x) k = _
        rw [get_put, app_take hx]
        have hx3' : x = eff l[i].1 ((get cur l[i].2.1).getD 0) l[i].2.2 := hx3
        simp only [app1, hlive, cond_true]
        rw [hx3', h2, h2]
      · show l.length - (i + 1) < l.length - i
        omega
    · refine ⟨((i + 1 : Nat) : Int), wrap_i64 (by omega) (by omega), (i + 1, cur), ⟨⟨?_, rfl⟩, rfl, hS2⟩, ⟨hil, h1, fun k => ?_⟩, ?_⟩
      · repeat' first | exact trivial | exact rfl | refine And.intro ?_ ?_
      · have hdead : live l[i].1 = false := by
          have : (!(isNilFunc (mk l[i].1))) = false := h3
          rw [mk_nil] at this
          simpa using this
        rw [app_take hx, app1_dead hdead]
        exact h2 k
      · show l.length - (i + 1) < l.length - i
        omega
  · refine fun q S' hS hrd => And.intro rfl (Exists.intro (some q) (And.intro rfl ⟨cur, hrd, h1, fun k => ?_⟩))
    have hil : i = l.length := by have : ¬ i < l.length := by simpa using h
                                  have hi' : i ≤ l.length := hi
                                  omega
    subst hil
    have := h2 k
    rwa [List.take_length] at this

theorem eff_dead {k v n : Int} (h : live k = false) : eff k v n = v := by
  have : ¬ (0 ≤ k ∧ k ≤ 3) := fun e => by rw [live_iff.2 e] at h; cases h
  unfold eff
  rw [if_neg (by omega), if_neg (by omega), if_neg (by omega), if_neg (by omega)]

set_option maxHeartbeats 4000000 in
theorem ref_apply_spec (S : Store) (b : Option Nat) (src : M) (hm : MapRd S b (.int .i64) (.int .i64) src) (hs : once src) (p : Option Addr × Nat × Nat) (l : List O) (hl : l.length = p.2.1) (hr : RowRd S p.1 shO l) (hn : l.length ≤ 1000000) :
    Pure Try.prog 11 S [.map b, slV p] (A := Option Nat) (fun q => .c (.v (.map q))) (fun S' q => ∃ es : M, MapRd S' q (.int .i64) (.int .i64) es ∧ once es ∧ ∀ k, get es k = app (get src) l k) := by
  obtain ⟨p, n, c⟩ := p
  simp only at hl hr
  subst hl
  refine pure_vc agrees Try.func11 rfl rfl (fun S S' q hle h => let ⟨es, h1, h2⟩ := h; ⟨es, h1.le hle, h2⟩) ?_
  obtain ⟨ents, clock, hit, hio⟩ := iter_of hm
  refine ⟨ents, clock, src, hit, [], [], M × M × Option (Int × Int), [6, 7, 12, 13, 14, 15, 16, 17, 18, 19], fun _ => [], fun a => [.map (.int .i64) (.int .i64) a.1, .iter (.int .i64) (.int .i64) b ents clock a.2.1 a.2.2], fun _ => S,
    fun a => once a.1 ∧ once a.2.1 ∧ (∀ p ∈ a.2.1, p ∈ src) ∧ ∀ k, get a.1 k = if get a.2.1 k = none then get src k else none, fun a => a.2.1.length, ?_⟩
  refine And.intro (Exists.intro ([], src, none) (And.intro (And.intro (And.intro ?_ rfl) (And.intro rfl (Store.le_refl _))) ⟨once_nil, hs, fun _ h => h, fun k => ?_⟩)) ?_
  · repeat' first | exact trivial | exact rfl | refine And.intro ?_ ?_
  · show none = _
    by_cases h : get src k = none
    · rw [if_pos h, h]
    · rw [if_neg h]
  rintro ⟨es, left, ce⟩ ⟨h1, h2, h3, h4⟩
  refine And.intro hio (And.intro (fun hl => ?_) fun pre p post hl => ?_)
  · have hl' : left = [] := hl
    subst hl'
    have h4' : ∀ k, get es k = get src k := h4
    refine onF ?_
    refine ⟨[], [], Nat × M, [20, 21, 22, 23, 24, 25, 26, 27, 28, 29, 30, 31, 32, 33, 34, 35, 36, 37, 38, 39, 40, 41, 42, 43, 44, 45, 46, 47, 48, 49, 50, 51, 52, 53, 54, 55, 56, 57], fun a => [(8, .c (.v (.int .i64 a.1)))],
      fun a => [.map (.int .i64) (.int .i64) a.2, .iter (.int .i64) (.int .i64) b ents clock [] ce], fun _ => S,
      fun a => a.1 ≤ l.length ∧ once a.2 ∧ ∀ k, get a.2 k = app (get src) (l.take a.1) k, fun a => l.length - a.1, ?_⟩
    refine And.intro (Exists.intro (0, es) (And.intro (And.intro (And.intro ?_ rfl) (And.intro rfl (Store.le_refl _))) ⟨Nat.zero_le _, h1, h4'⟩)) ?_
    · repeat' first | exact trivial | exact rfl | refine And.intro ?_ ?_
    rintro ⟨i, cur⟩ ⟨hi, k1, k2⟩
    refine And.intro (fun h => ?_) (fun h => ?_)
    · have hil : i < l.length := by simpa using h
      have hx : l[i]? = some l[i] := List.getElem?_eq_getElem hil
      obtain ⟨bb, o, hp, hok, hrd⟩ := row_at hr hx
      have hi1 : (0 : Int) ≤ (i : Int) := Int.natCast_nonneg _
      have hi2 : (i : Int) < (l.length : Int) := by omega
      refine ⟨hi1, hi2, bb, o, hp, l[i].1, trivial, rd_field (f := 0) hrd rfl, fun e1 => ⟨hi1, hi2, bb, o, hp, l[i].1, trivial, rd_field (f := 0) hrd rfl, fun e2 => ?_, fun e2 => ?_⟩, fun e1 => ?_⟩
      · refine ⟨.of [0, 1, 2, 3, 4, 5, 6, 7, 8, 9, 10, 11, 12, 13, 14, 15, 16, 17, 18], [0], [16], by kernel_rfl, ?_⟩
        refine ⟨hi1, hi2, bb, o, hp, l[i].2.1, trivial, rd_field (f := 1) hrd rfl, hi1, hi2, bb, o, hp, l[i], hok, hrd, hi1, hi2, bb, o, hp, l[i].2.1, trivial, rd_field (f := 1) hrd rfl, ?_⟩
        refine ⟨l[i].2.1, (0 : Int), rfl, rfl, ⟨_, rfl, rfl, rfl⟩, .inl ⟨_, _, _, one_spec _ l[i] _, fun S3 x hS3 hx3 => ?_⟩⟩
        refine ⟨l[i].2.1, x, rfl, rfl, trivial, ((i + 1 : Nat) : Int), wrap_i64 (by omega) (by omega), (i + 1, put cur l[i].2.1 x), ⟨⟨?_, rfl⟩, rfl, hS3⟩, ⟨hil, once_mset rfl k1 _ _, fun k => ?_⟩, ?_⟩
        · repeat' first | exact trivial | exact rfl | refine And.intro ?_ ?_
        · have hlive : live l[i].1 = true := by
            rw [live_iff]
            exact ⟨by simpa using e1, by simpa using e2⟩
          show get (put cur l[i].2.1 x) k = _
          rw [get_put, app_take hx]
          have hx3' : x = eff l[i].1 ((get cur l[i].2.1).getD 0) l[i].2.2 := hx3
          simp only [app1, hlive, cond_true]
          rw [hx3', k2, k2]
        · show l.length - (i + 1) < l.length - i
          omega
      · have hdead : live l[i].1 = false := by
          have e2' : ¬ l[i].1 ≤ 3 := by simpa using e2
          simp [live, e2']
        refine ⟨((i + 1 : Nat) : Int), wrap_i64 (by omega) (by omega), (i + 1, cur), ⟨⟨?_, rfl⟩, rfl, Store.le_refl _⟩, ⟨hil, k1, fun k => ?_⟩, ?_⟩
        · repeat' first | exact trivial | exact rfl | refine And.intro ?_ ?_
        · rw [app_take hx, app1_dead hdead]
          exact k2 k
        · show l.length - (i + 1) < l.length - i
          omega
      · have hdead : live l[i].1 = false := by
          have e1' : ¬ l[i].1 ≥ 0 := by simpa using e1
          simp [live]; omega
        refine onF ⟨((i + 1 : Nat) : Int), wrap_i64 (by omega) (by omega), (i + 1, cur), ⟨⟨?_, rfl⟩, rfl, Store.le_refl _⟩, ⟨hil, k1, fun k => ?_⟩, ?_⟩
        · repeat' first | exact trivial | exact rfl | refine And.intro ?_ ?_
        · rw [app_take hx, app1_dead hdead]
          exact k2 k
        · show l.length - (i + 1) < l.length - i
          omega
    · refine fun q S' hS hrd => And.intro rfl (Exists.intro (some q) (And.intro rfl ⟨cur, hrd, k1, fun k => ?_⟩))
      have hil : i = l.length := by have : ¬ i < l.length := by simpa using h
                                    have hi' : i ≤ l.length := hi
                                    omega
      subst hil
      have := k2 k
      rwa [List.take_length] at this
  · have hl' : left = pre ++ p :: post := hl
    subst hl'
    refine onT ⟨hio, p.1, p.2, rfl, rfl, trivial, (put es p.1 p.2, pre ++ post, some p), ⟨⟨?_, rfl⟩, rfl, Store.le_refl _⟩, ⟨once_mset rfl h1 _ _, once_out h2, fun q hq => h3 q ?_, fun k => ?_⟩, ?_⟩
    · repeat' first | exact trivial | exact rfl | refine And.intro ?_ ?_
    · rcases List.mem_append.1 hq with hq | hq
      · exact List.mem_append_left _ hq
      · exact List.mem_append_right _ (List.mem_cons_of_mem _ hq)
    · show get (put es p.1 p.2) k = _
      have e1 := mget_mset (k := .int .i64) rfl es p.1 p.2 k
      have e2 := mget_out (k := .int .i64) rfl h2 k
      have e3 := h4 k
      have hsrc : get src p.1 = some p.2 := (mget_some (k := .int .i64) rfl hs).2 (h3 p (by simp))
      simp only [get, put] at *
      rw [e1]
      simp only [e2]
      by_cases hk : Shape.eq (.int .i64) k p.1 = true
      · have hk' := (key_eq (k := .int .i64) rfl k p.1).1 hk
        rw [if_pos hk, if_pos hk, if_pos rfl, hk', hsrc]
      · rw [if_neg hk, if_neg hk, e3]
    · show (pre ++ post).length < (pre ++ p :: post).length
      simp
end Go.Proofs.Ytfchicmekieclaa
