/- law54: the reference's Batch. -/
import Derived.Test.YtfchicmekieclaaFh
namespace Go.Proofs.Ytfchicmekieclaa
open Go Go.Vc
set_option maxRecDepth 100000

theorem on_key {o : O} (h : live o.1 = true) : on o.2.1 o = true := by simp [on, h]
theorem not_on {k : Int} {o : O} : (!on k o) = (bif o.2.1 != k then true else !live o.1) := by
  unfold on
  by_cases h : o.2.1 = k
  · simp [h]
  · have : (o.2.1 != k) = true := by simpa using h
    rw [this]; simp [h]

/-- What the rows of the keys met so far are. -/
def outs (l : List O) (i : Nat) : List O := (keysOf (l.take i)).flatMap (rowOf l)
def fresh (l : List O) (key : Int) (k : Nat) : Bool := (l.take k).all fun o => !on key o

theorem outs_met {l : List O} {k : Nat} {x : O} (h : fresh l x.2.1 k = false) (hx : l[k]? = some x) : outs l (k + 1) = outs l k := by
  unfold outs
  rw [List.take_add_one, hx]
  show ((keysOf (l.take k ++ [x])).flatMap _) = _
  rw [keysOf_snoc, keyStep_mem]
  rw [(keys_nodup (l.take k)).2]
  unfold fresh at h
  rw [List.all_eq_false] at h
  obtain ⟨o, ho, hon⟩ := h
  exact ⟨o, ho, by simpa using hon⟩
theorem outs_dead {l : List O} {k : Nat} {x : O} (h : live x.1 = false) (hx : l[k]? = some x) : outs l (k + 1) = outs l k := by
  unfold outs
  rw [List.take_add_one, hx]
  show ((keysOf (l.take k ++ [x])).flatMap _) = _
  rw [keysOf_snoc, keyStep, if_neg (by simp [h])]
theorem outs_new {l : List O} {k : Nat} {x : O} (hl : live x.1 = true) (h : fresh l x.2.1 k = true) (hx : l[k]? = some x) : outs l (k + 1) = outs l k ++ rowOf l x.2.1 := by
  unfold outs
  rw [List.take_add_one, hx]
  show ((keysOf (l.take k ++ [x])).flatMap _) = _
  rw [keysOf_snoc, keyStep, if_pos, List.flatMap_append]
  · simp
  · refine ⟨hl, fun e => ?_⟩
    rw [(keys_nodup (l.take k)).2] at e
    obtain ⟨o, ho, hon⟩ := e
    unfold fresh at h
    rw [List.all_eq_true] at h
    have := h o ho
    rw [hon] at this
    cases this

theorem fresh_stack {l : List O} {key : Int} {k : Nat} (h : fresh l key k = true) : stackOf (l.take k) key = [] := by
  unfold fresh at h
  rw [List.all_eq_true] at h
  have : (l.take k).filter (on key) = [] := by
    rw [List.filter_eq_nil_iff]
    intro o ho hon
    have := h o ho
    rw [hon] at this
    cases this
  unfold stackOf
  rw [this]
  rfl
theorem outs_len (l : List O) (k : Nat) : (outs l k).length ≤ l.length := by
  have h1 : (outs l k).length = ((keysOf (l.take k)).map fun k => (rowOf l k).length).sum := by simp [outs, List.length_flatMap]
  have h2 : ∀ (ks : List Int), (ks.map fun k => (rowOf l k).length).sum ≤ (ks.map fun k => (l.filter (on k)).length).sum := by
    intro ks
    induction ks with
    | nil => simp
    | cons k ks ih =>
      simp only [List.map_cons, List.sum_cons]
      have : (rowOf l k).length ≤ (l.filter (on k)).length := by
        have := stack_len (l.filter (on k)) []
        simpa [rowOf, stackOf] using this
      omega
  have h3 := sum_filter l (keysOf (l.take k)) (keys_nodup _).1
  have h4 := h2 (keysOf (l.take k))
  omega

set_option maxHeartbeats 8000000 in
theorem ref_batch_spec (S : Store) (p : Hd) (l : List O) (hl : l.length = p.2.1) (hr : RowRd S p.1 shO l) (hn : l.length ≤ 1000000) :
    Pure Try.prog 21 S [slV p] (A := Hd) (fun q => .c (.v (slV q))) (fun S' q => q.2.1 = (batch l).length ∧ RowRd S' q.1 shO (batch l)) := by
  obtain ⟨p, n, c⟩ := p
  simp only at hl hr
  subst hl
  refine pure_vc agrees Try.func21 rfl rfl (fun S S' q hle ⟨h1, h2⟩ => ⟨h1, h2.le hle⟩) ?_
  refine ⟨[], [(3, shO, 32)], Nat × List O, [5, 6, 7, 8, 9, 10, 11, 12, 13, 14, 15, 16, 17, 18, 19, 20, 21, 22, 23, 24, 25, 26, 27, 28, 29, 30, 31, 32, 33, 34, 35, 36, 37, 38, 39, 40, 41, 42, 43, 44, 45, 46, 47, 48, 49, 50, 51, 52, 53, 54, 55, 56, 57, 58, 59, 60, 61, 62, 63, 64, 65, 66, 67, 68, 69, 70, 71, 72, 73, 74, 75, 76, 77, 78, 79, 80, 81, 82, 83, 84, 85, 86, 87, 88, 89, 90, 91, 92, 93, 94, 95, 96, 97, 98, 99, 100, 101, 102, 103, 104, 105, 106, 107, 108, 109, 110, 111, 112, 113, 114, 115, 116, 117, 118, 119, 120, 121, 122, 123, 124, 125, 126, 127, 128, 129, 130, 131, 132, 133, 134, 135, 136, 137, 138, 139, 140, 141, 142, 143, 144],
    fun a => [(3, .c (.ref 0)), (4, .c (.v (.int .i64 a.1)))], fun a => [.row shO 32 a.2], fun _ => S, fun a => a.1 ≤ l.length ∧ a.2 = outs l a.1, fun a => l.length - a.1, ?_⟩
  refine And.intro (Exists.intro (0, []) (And.intro (And.intro (And.intro ?_ rfl) (And.intro rfl (Store.le_refl _))) ⟨Nat.zero_le _, rfl⟩)) ?_
  · repeat' first | exact trivial | exact rfl | refine And.intro ?_ ?_
  rintro ⟨i, out⟩ ⟨hi, hout⟩
  simp only at hi hout
  refine And.intro (fun h => ?_) (fun h => ?_)
  · have hil : i < l.length := by simpa using h
    have hx : l[i]? = some l[i] := List.getElem?_eq_getElem hil
    obtain ⟨b, o, hp, hok, hrd⟩ := row_at hr hx
    have htake : l.take (i + 1) = l.take i ++ [l[i]] := by rw [List.take_add_one, hx]; rfl
    refine ⟨[], [], Nat × Bool, [17, 18, 19, 20, 21, 22, 23, 24, 25, 26, 27, 28, 29, 30, 31, 32, 33, 34, 35, 36, 37, 38, 39, 40, 41, 42, 43, 44, 45, 46, 47, 48, 49, 50, 51], fun a => [(5, .c (.v (.bool a.2))), (6, .c (.v (.int .i64 a.1)))], fun _ => [.row shO 32 out], fun _ => S, fun a => a.1 ≤ i ∧ a.2 = fresh l l[i].2.1 a.1, fun a => i - a.1, ?_⟩
    refine And.intro (Exists.intro (0, true) (And.intro (And.intro (And.intro ?_ rfl) (And.intro rfl (Store.le_refl _))) ⟨Nat.zero_le _, rfl⟩)) ?_
    · repeat' first | exact trivial | exact rfl | refine And.intro ?_ ?_
    rintro ⟨k, fr⟩ ⟨hk, hfr⟩
    simp only at hk hfr
    refine And.intro (fun h => ?_) (fun h => ?_)
    · have hki : k < i := by simpa using h
      have hy : l[k]? = some l[k] := List.getElem?_eq_getElem (by omega)
      obtain ⟨b2, o2, hp2, hok2, hrd2⟩ := row_at hr hy
      have hfr2 : fresh l l[i].2.1 (k + 1) = (fr && !on l[i].2.1 l[k]) := by
        unfold fresh at hfr ⊢
        rw [List.take_add_one, hy, List.all_append, hfr]
        simp
      have k0 : (0 : Int) ≤ (k : Int) := Int.natCast_nonneg _
      have k1 : (k : Int) < (l.length : Int) := by omega
      have i0 : (0 : Int) ≤ (i : Int) := Int.natCast_nonneg _
      have i1 : (i : Int) < (l.length : Int) := by omega
      have hw : IntKind.i64.wrap ((k : Int) + 1) = ((k + 1 : Nat) : Int) := wrap_i64 (by omega) (by omega)
      have hm : i - (k + 1) < i - k := by omega
      refine ⟨or21_9, [], oF21_9, by kernel_rfl, fun e => ?_, fun e => ?_⟩
      · have e' : fr = true := e
        subst e'
        refine ⟨k0, k1, b2, o2, hp2, l[k].2.1, trivial, rd_field (f := 1) hrd2 rfl, i0, i1, b, o, hp, l[i].2.1, trivial, rd_field (f := 1) hrd rfl, fun e1 => ?_, fun e1 => ?_⟩
        · refine onT ⟨((k + 1 : Nat) : Int), hw, (k + 1, true), ⟨⟨?_, rfl⟩, rfl, Store.le_refl _⟩, ⟨hki, ?_⟩, hm⟩
          · repeat' first | exact trivial | exact rfl | refine And.intro ?_ ?_
          · have e1' : (l[k].2.1 != l[i].2.1) = true := e1
            show true = fresh l l[i].2.1 (k + 1)
            rw [hfr2, not_on, e1']; rfl
        · have e1' : (l[k].2.1 != l[i].2.1) = false := e1
          refine ⟨k0, k1, b2, o2, hp2, l[k].1, trivial, rd_field (f := 0) hrd2 rfl, fun e2 => ?_, fun e2 => ?_⟩
          · refine ⟨((k + 1 : Nat) : Int), hw, (k + 1, true), ⟨⟨?_, rfl⟩, rfl, Store.le_refl _⟩, ⟨hki, ?_⟩, hm⟩
            · repeat' first | exact trivial | exact rfl | refine And.intro ?_ ?_
            · have e2' : decide (l[k].1 < 0) = true := e2
              show true = fresh l l[i].2.1 (k + 1)
              rw [hfr2, not_on, e1', live_dec, e2']; rfl
          · refine ⟨k0, k1, b2, o2, hp2, l[k].1, trivial, rd_field (f := 0) hrd2 rfl, ((k + 1 : Nat) : Int), hw, (k + 1, decide (l[k].1 > 3)), ⟨⟨?_, rfl⟩, rfl, Store.le_refl _⟩, ⟨hki, ?_⟩, hm⟩
            · repeat' first | exact trivial | exact rfl | refine And.intro ?_ ?_
            · have e2' : decide (l[k].1 < 0) = false := e2
              show decide (l[k].1 > 3) = fresh l l[i].2.1 (k + 1)
              rw [hfr2, not_on, e1', live_dec, e2']; simp
      · have e' : fr = false := e
        subst e'
        refine ⟨((k + 1 : Nat) : Int), hw, (k + 1, false), ⟨⟨?_, rfl⟩, rfl, Store.le_refl _⟩, ⟨hki, ?_⟩, hm⟩
        · repeat' first | exact trivial | exact rfl | refine And.intro ?_ ?_
        · show false = fresh l l[i].2.1 (k + 1)
          rw [hfr2]; rfl
    · have hki : k = i := by have : ¬ k < i := by simpa using h
                             omega
      subst hki
      have k0 : (0 : Int) ≤ (k : Int) := Int.natCast_nonneg _
      have k1 : (k : Int) < (l.length : Int) := by omega
      have hw : IntKind.i64.wrap ((k : Int) + 1) = ((k + 1 : Nat) : Int) := wrap_i64 (by omega) (by omega)
      have hm : l.length - (k + 1) < l.length - k := by omega
      refine And.intro (fun e => ?_) (fun e => ?_)
      · refine onT (onT ⟨((k + 1 : Nat) : Int), hw, (k + 1, out), ⟨⟨?_, rfl⟩, rfl, Store.le_refl _⟩, ⟨hil, ?_⟩, hm⟩)
        · repeat' first | exact trivial | exact rfl | refine And.intro ?_ ?_
        · have e' : fr = false := by have : (!fr) = true := e; simpa using this
          show out = outs l (k + 1)
          rw [hout, outs_met (hfr.symm.trans e') hx]
      · have e' : fr = true := by have : (!fr) = false := e; simpa using this
        refine ⟨k0, k1, b, o, hp, l[k].1, trivial, rd_field (f := 0) hrd rfl, fun e1 => ?_, fun e1 => ?_⟩
        · refine onT ⟨((k + 1 : Nat) : Int), hw, (k + 1, out), ⟨⟨?_, rfl⟩, rfl, Store.le_refl _⟩, ⟨hil, ?_⟩, hm⟩
          · repeat' first | exact trivial | exact rfl | refine And.intro ?_ ?_
          · have e1' : decide (l[k].1 < 0) = true := e1
            show out = outs l (k + 1)
            rw [hout, outs_dead (by rw [live_dec, e1']; rfl) hx]
        · refine ⟨k0, k1, b, o, hp, l[k].1, trivial, rd_field (f := 0) hrd rfl, fun e2 => ?_, fun e2 => ?_⟩
          · refine ⟨((k + 1 : Nat) : Int), hw, (k + 1, out), ⟨⟨?_, rfl⟩, rfl, Store.le_refl _⟩, ⟨hil, ?_⟩, hm⟩
            · repeat' first | exact trivial | exact rfl | refine And.intro ?_ ?_
            · have e1' : decide (l[k].1 < 0) = false := e1
              have e2' : decide (l[k].1 > 3) = true := e2
              show out = outs l (k + 1)
              rw [hout, outs_dead (by rw [live_dec, e1', e2']; rfl) hx]
          · have hlive : live l[k].1 = true := by
              have e1' : decide (l[k].1 < 0) = false := e1
              have e2' : decide (l[k].1 > 3) = false := e2
              rw [live_dec, e1', e2']; rfl
            have hfresh : fresh l l[k].2.1 k = true := hfr.symm.trans e'
            have hlo : out.length ≤ l.length := by rw [hout]; exact outs_len l k
            refine ⟨[], [], Nat × List O, [9, 10, 70, 73, 74, 75, 76, 77, 78, 79, 80, 81, 82, 83, 84, 85, 86, 87, 88, 89, 90, 91, 92, 93, 94, 95, 96, 97, 98, 99, 100, 101, 102, 103, 104, 105, 106, 107, 108, 109, 110, 111, 112, 113, 114, 115, 116, 117, 118, 119, 120, 121, 122, 123, 124, 125, 126, 127, 128, 129, 130, 131, 132, 133, 134, 135, 136, 137, 138, 139, 140, 141, 142, 143], fun a => [(3, .c (.ref 0)), (8, .c (.v (.int .i64 a.1)))], fun a => [.row shO 32 (out ++ a.2.reverse)], fun _ => S,
              fun a => k ≤ a.1 ∧ a.1 ≤ l.length ∧ a.2 = stackOf (l.take a.1) l[k].2.1, fun a => l.length - a.1, ?_⟩
            refine And.intro (Exists.intro (k, []) (And.intro (And.intro (And.intro ?_ rfl) (And.intro ?_ (Store.le_refl _))) ⟨Nat.le_refl _, hi, ?_⟩)) ?_
            · repeat' first | exact trivial | exact rfl | refine And.intro ?_ ?_
            · show [Res.row shO 32 out] = [Res.row shO 32 (out ++ [])]
              rw [List.append_nil]
            · exact (fresh_stack hfresh).symm
            rintro ⟨j, st⟩ ⟨hkj, hj, hst⟩
            simp only at hkj hj hst
            refine And.intro (fun h3 => ?_) (fun h3 => ?_)
            · have hjl : j < l.length := by simpa using h3
              have hz : l[j]? = some l[j] := List.getElem?_eq_getElem hjl
              obtain ⟨b3, o3, hp3, hok3, hrd3⟩ := row_at hr hz
              have j0 : (0 : Int) ≤ (j : Int) := Int.natCast_nonneg _
              have j1 : (j : Int) < (l.length : Int) := by omega
              have hwj : IntKind.i64.wrap ((j : Int) + 1) = ((j + 1 : Nat) : Int) := wrap_i64 (by omega) (by omega)
              have hmj : l.length - (j + 1) < l.length - j := by omega
              have hstj : stackOf (l.take (j + 1)) l[k].2.1 = if on l[k].2.1 l[j] = true then pushR st l[j] else st := by
                rw [List.take_add_one, hz, hst]; exact stackOf_snoc _ _ _
              have hstl : st.length ≤ l.length := by
                rw [hst]
                have h1 := stack_len ((l.take j).filter (on l[k].2.1)) []
                have h2 := List.length_filter_le (on l[k].2.1) (l.take j)
                have h4 : (l.take j).length ≤ l.length := by rw [List.length_take]; omega
                simp only [stackOf, List.length_nil] at h1 ⊢
                omega
              refine ⟨or21_15, [], oF21_15, by kernel_rfl, j0, j1, b3, o3, hp3, l[j].2.1, trivial, rd_field (f := 1) hrd3 rfl, k0, k1, b, o, hp, l[k].2.1, trivial, rd_field (f := 1) hrd rfl, fun e1 => ?_, fun e1 => ?_⟩
              · have e1' : (l[j].2.1 != l[k].2.1) = true := e1
                refine onT (onT ⟨((j + 1 : Nat) : Int), hwj, (j + 1, st), ⟨⟨?_, rfl⟩, rfl, Store.le_refl _⟩, ⟨by omega, hjl, ?_⟩, hmj⟩)
                · repeat' first | exact trivial | exact rfl | refine And.intro ?_ ?_
                · show st = stackOf (l.take (j + 1)) l[k].2.1
                  rw [hstj, if_neg (by rw [Bool.not_eq_true]; exact (by have := not_on (k := l[k].2.1) (o := l[j]); rw [e1'] at this; simpa using this))]
              · have e1' : (l[j].2.1 != l[k].2.1) = false := e1
                refine ⟨j0, j1, b3, o3, hp3, l[j].1, trivial, rd_field (f := 0) hrd3 rfl, fun e2 => ?_, fun e2 => ?_⟩
                · have e2' : decide (l[j].1 < 0) = true := e2
                  refine onT ⟨((j + 1 : Nat) : Int), hwj, (j + 1, st), ⟨⟨?_, rfl⟩, rfl, Store.le_refl _⟩, ⟨by omega, hjl, ?_⟩, hmj⟩
                  · repeat' first | exact trivial | exact rfl | refine And.intro ?_ ?_
                  · show st = stackOf (l.take (j + 1)) l[k].2.1
                    rw [hstj, if_neg (by rw [Bool.not_eq_true]; exact (by have := not_on (k := l[k].2.1) (o := l[j]); rw [e1', live_dec, e2'] at this; simpa using this))]
                · have e2' : decide (l[j].1 < 0) = false := e2
                  refine ⟨j0, j1, b3, o3, hp3, l[j].1, trivial, rd_field (f := 0) hrd3 rfl, fun e3 => ?_, fun e3 => ?_⟩
                  · have e3' : decide (l[j].1 > 3) = true := e3
                    refine ⟨((j + 1 : Nat) : Int), hwj, (j + 1, st), ⟨⟨?_, rfl⟩, rfl, Store.le_refl _⟩, ⟨by omega, hjl, ?_⟩, hmj⟩
                    · repeat' first | exact trivial | exact rfl | refine And.intro ?_ ?_
                    · show st = stackOf (l.take (j + 1)) l[k].2.1
                      rw [hstj, if_neg (by rw [Bool.not_eq_true]; exact (by have := not_on (k := l[k].2.1) (o := l[j]); rw [e1', live_dec, e2', e3'] at this; simpa using this))]
                  · have e3' : decide (l[j].1 > 3) = false := e3
                    have hon : on l[k].2.1 l[j] = true := by have := not_on (k := l[k].2.1) (o := l[j]); rw [e1', live_dec, e2', e3'] at this; simpa using this
                    rw [if_pos hon] at hstj
                    have hbig : ((out ++ st.reverse).length + 1) * 24 ≤ 140737488355328 := by rw [List.length_append, List.length_reverse]; omega
                    refine ⟨j0, j1, b3, o3, hp3, l[j], hok3, hrd3, [l[j]], ⟨rfl, rfl⟩, fun _ _ => ⟨trivial, trivial, trivial⟩, hbig, ?_⟩
                    refine ⟨[], [], O × List O, [9, 10, 111, 112, 113, 114, 115, 116, 117, 118, 119, 120, 121, 122, 123, 124, 125, 126, 127, 128, 129, 130, 131, 132, 133, 134, 135, 136, 137, 138, 139, 140, 141, 142, 143], fun a => [(3, .c (.ref 0))], fun a => [.row shO 32 (out ++ (a.1 :: a.2).reverse)], fun _ => S,
                      fun a => pushR a.2 a.1 = pushR st l[j] ∧ a.2.length ≤ st.length, fun a => a.2.length, ?_⟩
                    refine And.intro (Exists.intro (l[j], st) (And.intro (And.intro (And.intro ?_ rfl) (And.intro ?_ (Store.le_refl _))) ⟨rfl, Nat.le_refl _⟩)) ?_
                    · repeat' first | exact trivial | exact rfl | refine And.intro ?_ ?_
                    · show [Res.row shO 32 (out ++ st.reverse ++ [l[j]])] = [Res.row shO 32 (out ++ (l[j] :: st).reverse)]
                      rw [List.reverse_cons, List.append_assoc]
                    rintro ⟨q, xs⟩ ⟨hq, hxl⟩
                    simp only at hq hxl
                    have hwf : IntKind.i64.wrap ((out.length : Int) + 1) = ((out.length + 1 : Nat) : Int) := wrap_i64 (by omega) (by omega)
                    refine ⟨_, hwf, ?_⟩
                    have hleaf : ∀ T : List O, T = pushR st l[j] → T = stackOf (l.take (j + 1)) l[k].2.1 := fun T hT => by rw [hT, hstj]
                    rcases xs with _ | ⟨x, xs⟩
                    · have hd : decide (((out ++ ([q] : List O).reverse).length : Int) > ((out.length + 1 : Nat) : Int)) = false := by simp
                      refine ⟨fun h4 => absurd (h4.symm.trans hd) (by simp), fun _ => ?_⟩
                      refine ⟨((j + 1 : Nat) : Int), hwj, (j + 1, [q]), ⟨⟨?_, rfl⟩, rfl, Store.le_refl _⟩, ⟨by omega, hjl, hleaf _ (by rw [← hq]; rfl)⟩, hmj⟩
                      repeat' first | exact trivial | exact rfl | refine And.intro ?_ ?_
                    have hrl : (out ++ (q :: x :: xs).reverse).length = out.length + xs.length + 2 := by simp; omega
                    have hd : decide (((out ++ (q :: x :: xs).reverse).length : Int) > ((out.length + 1 : Nat) : Int)) = true := by rw [hrl]; simp; omega
                    have hxl' : xs.length + 1 ≤ st.length := by simpa using hxl
                    have hw2 : IntKind.i64.wrap (((out ++ (q :: x :: xs).reverse).length : Int) - 2) = ((out.length + xs.length : Nat) : Int) := by rw [hrl, wrap_i64 (by omega) (by omega)]; omega
                    have hw1 : IntKind.i64.wrap (((out ++ (q :: x :: xs).reverse).length : Int) - 1) = ((out.length + xs.length + 1 : Nat) : Int) := by rw [hrl, wrap_i64 (by omega) (by omega)]; omega
                    have hg2 : (out ++ (q :: x :: xs).reverse)[((out.length + xs.length : Nat) : Int).toNat]? = some x := by
                      simp only [List.reverse_cons, Int.toNat_natCast]
                      rw [List.getElem?_append_right (by omega), List.append_assoc, List.getElem?_append_right (by simp)]
                      simp
                    have hg1 : (out ++ (q :: x :: xs).reverse)[((out.length + xs.length + 1 : Nat) : Int).toNat]? = some q := by
                      simp only [List.reverse_cons, Int.toNat_natCast]
                      rw [List.getElem?_append_right (by omega), List.append_assoc, List.getElem?_append_right (by simp; omega)]
                      simp [show out.length + xs.length + 1 - out.length - xs.length = 1 by omega]
                    have hlt2 : (((out.length + xs.length : Nat) : Int)) < ((out ++ (q :: x :: xs).reverse).length : Int) := by rw [hrl]; omega
                    have hlt1 : (((out.length + xs.length + 1 : Nat) : Int)) < ((out ++ (q :: x :: xs).reverse).length : Int) := by rw [hrl]; omega
                    refine ⟨fun _ => ?_, fun h4 => absurd (h4.symm.trans hd) (by simp)⟩
                    refine ⟨or21_18, [1], oF21_18, by kernel_rfl, _, hw2, Int.natCast_nonneg _, hlt2, x, hg2, _, hw1, Int.natCast_nonneg _, hlt1, q, hg1, ?_⟩
                    refine ⟨⟨⟨_, rfl, rfl, rfl⟩, .inl ⟨_, _, _, ref_merge_spec _ x q, fun S1 y hS1 hy => ?_⟩⟩, ⟨⟨_, rfl, rfl, rfl⟩, .inl ⟨_, _, _, ref_merge_spec _ x q, fun S1 y hS1 hy => ?_⟩⟩, trivial⟩
                    all_goals
                      have hy' : y = merge x q := hy
                      clear hy
                      subst hy'
                      refine And.intro (fun e4 => ?_) (fun e4 => ?_)
                      · have e4' : (merge x q).2 = false := by have : (!(merge x q).2) = true := e4; simpa using this
                        refine ⟨((j + 1 : Nat) : Int), hwj, (j + 1, q :: x :: xs), ⟨⟨?_, rfl⟩, rfl, hS1⟩, ⟨by omega, hjl, hleaf _ ?_⟩, hmj⟩
                        · repeat' first | exact trivial | exact rfl | refine And.intro ?_ ?_
                        · rw [← hq, pushR, e4']; rfl
                      · have e4' : (merge x q).2 = true := by have : (!(merge x q).2) = false := e4; simpa using this
                        refine ⟨or21_20, [0], oF21_20, by kernel_rfl, _, hw2, Int.natCast_nonneg _, Nat.zero_le _, ?_, [(merge x q).1], ⟨rfl, rfl⟩, fun _ _ => ⟨trivial, trivial, trivial⟩, ?_, ?_, ((merge x q).1, xs), ⟨⟨?_, rfl⟩, ?_, hS1⟩, ⟨?_, Nat.le_of_succ_le hxl'⟩, ?_⟩
                        · show ((out.length + xs.length : Nat) : Int).toNat ≤ (out ++ (q :: x :: xs).reverse).length
                          rw [hrl, Int.toNat_natCast]; omega
                        · show ((out.length + xs.length : Nat) : Int).toNat - 0 ≤ (out ++ (q :: x :: xs).reverse).length
                          rw [hrl, Int.toNat_natCast]; omega
                        · show (((out.length + xs.length : Nat) : Int).toNat - 0 + 1) * 24 ≤ 140737488355328
                          rw [Int.toNat_natCast]; omega
                        · repeat' first | exact trivial | exact rfl | refine And.intro ?_ ?_
                        · show [Res.row shO 32 ((out ++ (q :: x :: xs).reverse).take (((out.length + xs.length : Nat) : Int).toNat - 0) ++ [(merge x q).1])] = [Res.row shO 32 (out ++ ((merge x q).1 :: xs).reverse)]
                          rw [Int.toNat_natCast, Nat.sub_zero]
                          have e5 : (out ++ (q :: x :: xs).reverse).take (out.length + xs.length) = out ++ xs.reverse := by
                            rw [show out ++ (q :: x :: xs).reverse = (out ++ xs.reverse) ++ [x, q] by simp]
                            exact List.take_left' (by simp)
                          rw [e5, List.reverse_cons, List.append_assoc]
                        · rw [← hq, pushR, e4']; rfl
                        · show xs.length < (x :: xs).length
                          simp
            · have hjl : j = l.length := by have : ¬ j < l.length := by simpa using h3
                                            omega
              subst hjl
              refine ⟨((k + 1 : Nat) : Int), hw, (k + 1, out ++ st.reverse), ⟨⟨?_, rfl⟩, rfl, Store.le_refl _⟩, ⟨hil, ?_⟩, hm⟩
              · repeat' first | exact trivial | exact rfl | refine And.intro ?_ ?_
              · show out ++ st.reverse = outs l (k + 1)
                rw [outs_new hlive hfresh hx, hst, List.take_length, hout]
                rfl
  · have hil : i = l.length := by have : ¬ i < l.length := by simpa using h
                                  omega
    subst hil
    have ho : out = batch l := by rw [hout, outs, List.take_length]; rfl
    subst ho
    exact fun q cap S' hS hrd => And.intro rfl (Exists.intro (q, _, _) (And.intro rfl ⟨rfl, hrd⟩))
end Go.Proofs.Ytfchicmekieclaa
