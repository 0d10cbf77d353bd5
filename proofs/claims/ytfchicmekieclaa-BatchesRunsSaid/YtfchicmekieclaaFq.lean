/- law54: the laws: Runs. -/
import Derived.Test.YtfchicmekieclaaFr
namespace Go.Proofs.Ytfchicmekieclaa
open Go Go.Vc
set_option maxRecDepth 100000

theorem fin_get {m : M} (h : ∀ p ∈ m, inI64 p.2) : FIn (get m) := by
  intro k x hx
  obtain ⟨k', hk'⟩ := mget_mem hx
  exact h _ hk'

set_option maxHeartbeats 16000000 in
theorem law_runs (S : Store) (b : Option Nat) (m : M) (hm : MapRd S b (.int .i64) (.int .i64) m) (h1 : once m) (hin : ∀ p ∈ m, inI64 p.2) (p : Hd) (l : List O) (hl : l.length = p.2.1) (hr : RowRd S p.1 shO l) (hop : ∀ y ∈ l, opIn y) :
    Pure Try.prog 7 S [.map b, slV p] rB (fun _ x => x = true) := by
  obtain ⟨p, n, c⟩ := p
  simp only at hl hr
  subst hl
  refine pure_vc agrees Try.func7 rfl rfl (fun _ _ _ _ h => h) ?_
  refine ⟨⟨_, rfl, rfl, rfl⟩, .inl ⟨_, _, _, great_spec S b m hm (p, l.length, c), fun S0 x hS0 hx => ?_⟩⟩
  refine And.intro (fun e => ⟨⟨_, rfl, rfl, rfl⟩, .inl ⟨_, _, _, awake_spec _, fun S' x hS hx => ⟨rfl, x, rfl, hx⟩⟩⟩) (fun e => ?_)
  have hn : l.length ≤ 60 := (small hx e).2
  have hm0 := hm.le hS0
  have hr0 := hr.le hS0
  refine ⟨⟨_, rfl, rfl, rfl⟩, .inl ⟨_, _, _, runs_spec S0 (p, l.length, c) l rfl hr0 (by omega), fun S1 r hS1 hrr => ?_⟩⟩
  obtain ⟨hs, hq, hq1, hq2⟩ := hrr
  have hm1 := hm0.le hS1
  have hr1 := hr0.le hS1
  have hok := runs_ok l
  have hflat := runs_flat l
  have hnr : (runs l).length ≤ 60 := by have := runs_len l; omega
  generalize hrs : runs l = rs at *
  have hhs := hq2.length
  have hfin : FIn (get m) := fin_get hin
  obtain ⟨rp, rn, rc⟩ := r
  simp only at hq hq1
  refine ⟨[], [(6, shO, 33)], Nat × Store, [7, 8, 9, 10, 11, 12, 13, 14, 15, 16, 17, 18, 19, 20, 21, 22, 23, 24, 25, 26, 27, 28, 29, 30, 31, 32, 33, 34, 35, 36, 37, 38, 39, 40, 41, 42, 43, 44, 45, 46, 47, 48, 49, 50, 51, 52, 53, 54, 55, 56, 57, 58, 59, 60, 61, 62, 63, 64, 65, 66, 67, 68, 69, 70, 71, 72, 73, 74, 75, 76, 77, 78, 79, 80, 81, 82, 83, 84, 85, 86, 87, 88, 89, 90, 91, 92, 93, 94, 95, 96, 97, 98, 99, 100, 101, 102, 103, 104, 105, 106, 107, 108, 109, 110, 111, 112, 113, 114, 115, 116, 117, 118, 119, 120, 121, 122, 123, 124, 125, 126, 127, 128, 129, 130, 131, 132, 133, 134, 135, 136, 137, 138, 139], fun a => [(7, .c (.v (.int .i64 a.1)))], fun a => [.row shO 33 (rs.take a.1).flatten], fun a => a.2,
    fun a => a.1 ≤ rs.length ∧ S1.le a.2, fun a => rs.length - a.1, ?_⟩
  refine And.intro (Exists.intro (0, S1) (And.intro (And.intro (And.intro ?_ rfl) (And.intro rfl (Store.le_refl _))) ⟨Nat.zero_le _, Store.le_refl _⟩)) ?_
  · repeat' first | exact trivial | exact rfl | refine And.intro ?_ ?_
  rintro ⟨i, T⟩ ⟨hi, hT⟩
  simp only at hi hT
  refine And.intro (fun h => ?_) (fun h => ?_)
  · have hil : i < rs.length := by
      have : ((i : Nat) : Int) < (rn : Int) := of_decide_eq_true h
      omega
    obtain ⟨pi, ci, hgi, hri⟩ := hq2.at hil
    have hgr : rs[i]? = some rs[i] := List.getElem?_eq_getElem hil
    have hmem : rs[i] ∈ rs := List.getElem_mem hil
    obtain ⟨row, hrow⟩ : ∃ row, rs[i] = row := ⟨_, rfl⟩
    rw [hrow] at hgi hri hgr hmem
    have hne := hok.ne row hmem
    have hcom := hok.com row hmem
    have hlen : (rs.take i).flatten.length + row.length ≤ 60 := by
      have e1 : rs.flatten.length = l.length := by rw [hflat]
      have e2 : rs = rs.take i ++ (row :: rs.drop (i + 1)) := by
        rw [← hrow, ← List.drop_eq_getElem_cons hil, List.take_append_drop]
      have e3 := congrArg (fun x => x.flatten.length) e2
      simp only [List.flatten_append, List.flatten_cons, List.length_append] at e3
      omega
    have hpos := List.length_pos_iff.2 hne
    have hnext : (rs.take (i + 1)).flatten = (rs.take i).flatten ++ row := by
      rw [List.take_add_one, hgr]; simp
    have hwi : IntKind.i64.wrap (((i : Nat) : Int) + 1) = ((i + 1 : Nat) : Int) := wrap_i64 (by omega) (by omega)
    obtain ⟨b1, o1, hp1, hk1, hd1⟩ := row_at hq1 hgi
    have i0 : (0 : Int) ≤ ((i : Nat) : Int) := Int.natCast_nonneg _
    have i1 : ((i : Nat) : Int) < (rn : Int) := by omega
    have hdT := Store.rd_le hT hd1
    refine ⟨i0, i1, b1, o1, hp1, (pi, row.length, ci), hk1, hdT, fun e => absurd e ?_, fun _ => ?_⟩
    · show ¬ (((row.length : Nat) : Int) == 0) = true
      simp; omega
    refine ⟨[], [(200008, .slice, 0)], Nat × Hd × Store, [10, 11, 12, 13, 14, 15, 16, 17, 18, 19, 20, 21, 22, 23, 24, 25, 26, 27, 28, 29, 30, 31, 32, 33, 34, 35, 36, 37, 38, 39, 40, 41, 42, 43, 44, 45, 46, 47, 48, 49, 50, 51, 52, 53, 54, 55, 56, 57, 58, 59, 60, 61, 62, 63, 64, 65, 66, 67, 68, 69, 70, 71, 72, 73, 74, 75, 76, 77, 78, 79, 80, 81, 82, 83, 84, 85, 86, 87, 88, 89, 90, 91, 92, 93, 94, 95, 96, 97, 98, 99, 100, 101, 102, 103, 104, 105, 106, 107, 108, 109, 110, 111, 112, 113, 114, 115, 116, 117, 118, 119, 120, 121, 122, 123, 124, 125, 126, 127, 128, 129, 130, 131, 132, 133, 134, 135, 136, 137, 138, 139], fun a => [(8, .c (.v (slV a.2.1))), (9, .c (.v (.int .i64 a.1)))], fun _ => [.row shO 33 (rs.take i).flatten], fun a => a.2.2,
      fun a => a.1 ≤ row.length ∧ T.le a.2.2 ∧ a.2.1.2.1 = a.1 ∧ RowRd a.2.2 a.2.1.1 shO (row.take a.1).reverse, fun a => row.length - a.1, ?_⟩
    refine And.intro (Exists.intro (0, (none, 0, 0), T) (And.intro (And.intro (And.intro ?_ rfl) (And.intro rfl (Store.le_refl _))) ⟨Nat.zero_le _, Store.le_refl _, rfl, ⟨.inl rfl, by simp⟩⟩)) ?_
    · repeat' first | exact trivial | exact rfl | refine And.intro ?_ ?_
    rintro ⟨k, ⟨bp, bn, bc⟩, U⟩ ⟨hk, hU, hbn, hbr⟩
    simp only at hk hU hbn hbr
    subst hbn
    refine ⟨i0, i1, b1, o1, hp1, (pi, row.length, ci), hk1, Store.rd_le hU hdT, ?_⟩
    refine And.intro (fun hh => ?_) (fun hh => ?_)
    · have hkr : bn < row.length := by
        have : ((bn : Nat) : Int) < ((row.length : Nat) : Int) := of_decide_eq_true hh
        omega
      have hgk : row[bn]? = some row[bn] := List.getElem?_eq_getElem hkr
      obtain ⟨ok, hok'⟩ : ∃ ok, row[bn] = ok := ⟨_, rfl⟩
      rw [hok'] at hgk
      have k0 : (0 : Int) ≤ ((bn : Nat) : Int) := Int.natCast_nonneg _
      have k1 : ((bn : Nat) : Int) < ((row.length : Nat) : Int) := by omega
      refine ⟨[], [], Nat × Store, [11, 12, 13, 14, 15, 16, 17, 18, 19, 20, 21, 22, 23, 24, 25, 26, 27, 28, 29, 30, 31, 32, 33, 34, 35, 36, 37, 38, 39, 40, 41, 42, 43, 44, 45, 46, 47, 48, 49, 50, 51, 52, 53, 54, 55, 56, 57, 58, 59, 60, 61, 62, 63, 64, 65, 66, 67, 68, 69, 70, 71, 72, 73, 74, 75, 76, 77, 78, 79, 80, 81, 82, 83, 84, 85, 86, 87, 88, 89, 90, 91, 92, 93, 94, 95, 96, 97, 98, 99, 100, 101, 102, 103, 104, 105, 106, 107, 108, 109, 110, 111, 112, 113, 114, 115, 116, 117, 118, 119, 120, 121, 122, 123, 124, 125, 126, 127, 128, 129, 130, 131, 132, 133, 134, 135, 136, 137, 138, 139], fun a => [(10, .c (.v (.int .i64 a.1)))], fun _ => [.row shO 33 (rs.take i).flatten], fun a => a.2,
        fun a => a.1 ≤ bn ∧ U.le a.2, fun a => bn - a.1, ?_⟩
      refine And.intro (Exists.intro (0, U) (And.intro (And.intro (And.intro ?_ rfl) (And.intro rfl (Store.le_refl _))) ⟨Nat.zero_le _, Store.le_refl _⟩)) ?_
      · repeat' first | exact trivial | exact rfl | refine And.intro ?_ ?_
      rintro ⟨j, V⟩ ⟨hj, hV⟩
      simp only at hj hV
      have hrV := ((hri.le hT).le hU).le hV
      have hdV := Store.rd_le hV (Store.rd_le hU hdT)
      refine And.intro (fun hv => ?_) (fun hv => ?_)
      · have hjk : j < bn := by
          have : ((j : Nat) : Int) < ((bn : Nat) : Int) := of_decide_eq_true hv
          omega
        have hgj : row[j]? = some row[j] := List.getElem?_eq_getElem (by omega)
        obtain ⟨oj, hoj⟩ : ∃ oj, row[j] = oj := ⟨_, rfl⟩
        rw [hoj] at hgj
        obtain ⟨b2, o2, hp2, hk2, hd2⟩ := row_at hrV hgj
        obtain ⟨b3, o3, hp3, hk3, hd3⟩ := row_at hrV hgk
        have j0 : (0 : Int) ≤ ((j : Nat) : Int) := Int.natCast_nonneg _
        have j1 : ((j : Nat) : Int) < ((row.length : Nat) : Int) := by omega
        refine ⟨or7_17, [], oF7_17, by kernel_rfl, i0, i1, b1, o1, hp1, (pi, row.length, ci), hk1, hdV, j0, j1, b2, o2, hp2, oj, hk2, hd2, i0, i1, b1, o1, hp1, (pi, row.length, ci), hk1, hdV, k0, k1, b3, o3, hp3, ok, hk3, hd3, ⟨⟨_, rfl, rfl, rfl⟩, .inl ⟨_, _, _, commute_spec V oj ok, fun S7 y hS7 hy => ?_⟩⟩⟩
        have hyt : y = true := (show y = commute oj ok from hy).trans (pair_com hcom hjk hgj hgk)
        clear hy
        subst hyt
        refine onF ⟨((j + 1 : Nat) : Int), wrap_i64 (by omega) (by omega), (j + 1, S7), ⟨⟨?_, rfl⟩, rfl, Store.le_refl _⟩, ⟨hjk, Store.le_trans hV hS7⟩, ?_⟩
        · repeat' first | exact trivial | exact rfl | refine And.intro ?_ ?_
        · show bn - (j + 1) < bn - j
          omega
      · obtain ⟨b3, o3, hp3, hk3, hd3⟩ := row_at hrV hgk
        refine ⟨i0, i1, b1, o1, hp1, (pi, row.length, ci), hk1, hdV, k0, k1, b3, o3, hp3, ok, hk3, hd3, ?_⟩
        refine ⟨(row.take bn).reverse, src_of (by simp; omega) (hbr.le hV), fun _ _ => ⟨trivial, trivial, trivial⟩, ?_, ?_⟩
        · show ([(ok.1, ok.2.1, ok.2.2)].length + (row.take bn).reverse.length) * 24 ≤ 140737488355328
          simp; omega
        refine ⟨((bn + 1 : Nat) : Int), wrap_i64 (by omega) (by omega), fun p' c' U' hU' hr' => ⟨(bn + 1, (p', ([(ok.1, ok.2.1, ok.2.2)] ++ (row.take bn).reverse).length, c'), U'), ⟨⟨?_, rfl⟩, rfl, Store.le_refl _⟩, ⟨hkr, Store.le_trans hU (Store.le_trans hV hU'), ?_, ?_⟩, ?_⟩⟩
        · repeat' first | exact trivial | exact rfl | refine And.intro ?_ ?_
        · show ([(ok.1, ok.2.1, ok.2.2)] ++ (row.take bn).reverse).length = bn + 1
          simp; omega
        · show RowRd U' p' shO (row.take (bn + 1)).reverse
          have e1 : (row.take (bn + 1)).reverse = [(ok.1, ok.2.1, ok.2.2)] ++ (row.take bn).reverse := by
            rw [List.take_add_one, hgk]; simp
          rw [e1]
          exact hr'
        · show row.length - (bn + 1) < row.length - bn
          omega
    · have hkl : bn = row.length := by
        have : ¬ ((bn : Nat) : Int) < ((row.length : Nat) : Int) := of_decide_eq_false hh
        omega
      rw [hkl, List.take_length] at hbr
      have hrU := (hri.le hT).le hU
      have hdU := Store.rd_le hU hdT
      refine And.intro (fun hg => ?_) (fun hg => ?_)
      · have hi0 : 0 < i := by
          have : ((i : Nat) : Int) > 0 := of_decide_eq_true hg
          omega
        have hil' : i - 1 < rs.length := by omega
        obtain ⟨pj, cj, hgj, hrj⟩ := hq2.at hil'
        have hgr' : rs[i - 1]? = some rs[i - 1] := List.getElem?_eq_getElem hil'
        obtain ⟨prev, hprev⟩ : ∃ prev, rs[i - 1] = prev := ⟨_, rfl⟩
        rw [hprev] at hgj hrj hgr'
        obtain ⟨b4, o4, hp4, hk4, hd4⟩ := row_at hq1 hgj
        have hw : IntKind.i64.wrap (((i : Nat) : Int) - 1) = ((i - 1 : Nat) : Int) := by rw [wrap_i64 (by omega) (by omega)]; omega
        have m0 : (0 : Int) ≤ ((i - 1 : Nat) : Int) := Int.natCast_nonneg _
        have m1 : ((i - 1 : Nat) : Int) < (rn : Int) := by omega
        have hplen : prev.length ≤ 60 := by
          have e1 : rs.flatten.length = l.length := by rw [hflat]
          have e2 : rs = rs.take (i - 1) ++ (prev :: rs.drop (i - 1 + 1)) := by
            rw [← hprev, ← List.drop_eq_getElem_cons hil', List.take_append_drop]
          have e3 := congrArg (fun x => x.flatten.length) e2
          simp only [List.flatten_append, List.flatten_cons, List.length_append] at e3
          omega
        obtain ⟨o0, ho0⟩ : ∃ o0, row[0] = o0 := ⟨_, rfl⟩
        have hg0 : row[0]? = some o0 := by rw [← ho0]; exact List.getElem?_eq_getElem hpos
        obtain ⟨xm, hxm, hxc⟩ := hok.max (i - 1) prev row o0 hgr' (by rw [show i - 1 + 1 = i by omega]; exact hgr) hg0
        refine ⟨[], [], Bool × Nat × Store, [13, 14, 15, 16, 17, 18, 19, 20, 21, 22, 23, 24, 25, 26, 27, 28, 29, 30, 31, 32, 33, 34, 35, 36, 37, 38, 39, 40, 41, 42, 43, 44, 45, 46, 47, 48, 49, 50, 51, 52, 53, 54, 55, 56, 57, 58, 59, 60, 61, 62, 63, 64, 65, 66, 67, 68, 69, 70, 71, 72, 73, 74, 75, 76, 77, 78, 79, 80, 81, 82, 83, 84, 85, 86, 87, 88, 89, 90, 91, 92, 93, 94, 95, 96, 97, 98, 99, 100, 101, 102, 103, 104, 105, 106, 107, 108, 109, 110, 111, 112, 113, 114, 115, 116, 117, 118, 119, 120, 121, 122, 123, 124, 125, 126, 127, 128, 129, 130, 131, 132, 133, 134, 135, 136, 137, 138, 139], fun a => [(11, .c (.v (.bool a.1))), (12, .c (.v (.int .i64 a.2.1)))], fun _ => [.row shO 33 (rs.take i).flatten], fun a => a.2.2,
          fun a => a.2.1 ≤ prev.length ∧ U.le a.2.2 ∧ a.1 = (prev.take a.2.1).any (fun x => !commute x o0), fun a => prev.length - a.2.1, ?_⟩
        refine And.intro (Exists.intro (false, 0, U) (And.intro (And.intro (And.intro ?_ rfl) (And.intro rfl (Store.le_refl _))) ⟨Nat.zero_le _, Store.le_refl _, rfl⟩)) ?_
        · repeat' first | exact trivial | exact rfl | refine And.intro ?_ ?_
        rintro ⟨sm, j, V⟩ ⟨hj, hV, hsm⟩
        simp only at hj hV hsm
        have hdV' := Store.rd_le hV (Store.rd_le hU (Store.rd_le hT hd4))
        refine ⟨_, hw, m0, m1, b4, o4, hp4, (pj, prev.length, cj), hk4, hdV', ?_⟩
        refine And.intro (fun hv => ?_) (fun hv => ?_)
        · have hjl : j < prev.length := by
            have : ((j : Nat) : Int) < ((prev.length : Nat) : Int) := of_decide_eq_true hv
            omega
          have hgj5 : prev[j]? = some prev[j] := List.getElem?_eq_getElem hjl
          obtain ⟨xj, hxj⟩ : ∃ xj, prev[j] = xj := ⟨_, rfl⟩
          rw [hxj] at hgj5
          have hrV := hrU.le hV
          have hdV := Store.rd_le hV hdU
          obtain ⟨b5, o5, hp5, hk5, hd5⟩ := row_at (((hrj.le hT).le hU).le hV) hgj5
          obtain ⟨b6, o6, hp6, hk6, hd6⟩ := row_at hrV hg0
          have j0 : (0 : Int) ≤ ((j : Nat) : Int) := Int.natCast_nonneg _
          have j1 : ((j : Nat) : Int) < ((prev.length : Nat) : Int) := by omega
          have z1 : (0 : Int) < ((row.length : Nat) : Int) := by omega
          have e1 : (prev.take (j + 1)).any (fun x => !commute x o0) = ((prev.take j).any (fun x => !commute x o0) || !commute xj o0) := by
            rw [List.take_add_one, hgj5]; simp
          have hwj : IntKind.i64.wrap (((j : Nat) : Int) + 1) = ((j + 1 : Nat) : Int) := wrap_i64 (by omega) (by omega)
          cases sm
          · refine ⟨or7_25, [], oF7_25, by kernel_rfl, onF ⟨_, hw, m0, m1, b4, o4, hp4, (pj, prev.length, cj), hk4, hdV', j0, j1, b5, o5, hp5, xj, hk5, hd5, i0, i1, b1, o1, hp1, (pi, row.length, ci), hk1, hdV, Int.le_refl 0, z1, b6, o6, hp6, o0, hk6, hd6, ⟨⟨_, rfl, rfl, rfl⟩, .inl ⟨_, _, _, commute_spec V xj o0, fun S7 y hS7 hy => ?_⟩⟩⟩⟩
            refine ⟨((j + 1 : Nat) : Int), hwj, (!y, j + 1, S7), ⟨⟨?_, rfl⟩, rfl, Store.le_refl _⟩, ⟨hjl, Store.le_trans hV hS7, ?_⟩, ?_⟩
            · repeat' first | exact trivial | exact rfl | refine And.intro ?_ ?_
            · show (!y) = (prev.take (j + 1)).any (fun x => !commute x o0)
              rw [e1, ← hsm, Bool.false_or, (show y = commute xj o0 from hy)]
            · show prev.length - (j + 1) < prev.length - j
              omega
          · refine ⟨or7_25, [], oF7_25, by kernel_rfl, onT ?_⟩
            refine ⟨((j + 1 : Nat) : Int), hwj, (true, j + 1, V), ⟨⟨?_, rfl⟩, rfl, Store.le_refl _⟩, ⟨hjl, hV, ?_⟩, ?_⟩
            · repeat' first | exact trivial | exact rfl | refine And.intro ?_ ?_
            · show true = (prev.take (j + 1)).any (fun x => !commute x o0)
              rw [e1, ← hsm, Bool.true_or]
            · show prev.length - (j + 1) < prev.length - j
              omega
        · have hjl : j = prev.length := by
            have : ¬ ((j : Nat) : Int) < ((prev.length : Nat) : Int) := of_decide_eq_false hv
            omega
          rw [hjl, List.take_length] at hsm
          have hst : sm = true := by
            rw [hsm, List.any_eq_true]
            exact ⟨xm, hxm, by rw [hxc]; rfl⟩
          clear hsm
          subst hst
          refine onF ?_
          have hUV : U.le V := hV
          have hlr : row.reverse.length = bn := by simp; omega
          have hdr := Store.rd_le hUV hdU
          refine ⟨or7_28, [], oF7_28, by kernel_rfl, i0, i1, b1, o1, hp1, (pi, row.length, ci), hk1, hdr, ?_⟩
          refine ⟨⟨_, rfl, rfl, rfl⟩, .inl ⟨_, _, _, apply_spec V b m (((hm1.le hT).le hU).le hUV) h1 (bp, bn, bc) row.reverse hlr (hbr.le hUV) (by simp; omega), fun S7 q7 hS7 ⟨es, hy1, hy2, hy3⟩ => ?_⟩⟩
          refine ⟨⟨_, rfl, rfl, rfl⟩, .inl ⟨_, _, _, apply_spec S7 b m ((((hm1.le hT).le hU).le hUV).le hS7) h1 (pi, row.length, ci) row rfl ((hrU.le hUV).le hS7) (by omega), fun S8 q8 hS8 ⟨fs, hz1, hz2, hz3⟩ => ?_⟩⟩
          refine ⟨⟨_, rfl, rfl, rfl⟩, .inl ⟨_, _, _, same_spec S8 q7 q8 es fs (hy1.le hS8) hy2 hz1 hz2, fun S9 x9 hS9 hx9 => ?_⟩⟩
          have hx9' : x9 = true := by
            have : x9 = true ↔ ∀ k, get es k = get fs k := hx9
            rw [this]
            intro k
            rw [hy3, hz3, app_rev hfin (fun x hx => hop x (by rw [← hflat]; exact List.mem_flatten.2 ⟨row, hmem, hx⟩)) hcom]
          clear hx9
          subst hx9'
          have hle9 := Store.le_trans hUV (Store.le_trans hS7 (Store.le_trans hS8 hS9))
          refine onF ⟨i0, i1, b1, o1, hp1, (pi, row.length, ci), hk1, Store.rd_le hle9 hdU, ?_⟩
          refine ⟨row, src_of rfl (hrU.le hle9), fun _ _ => ⟨trivial, trivial, trivial⟩, ?_, ?_⟩
          · show ((rs.take i).flatten.length + row.length) * 24 ≤ 140737488355328
            omega
          refine ⟨((i + 1 : Nat) : Int), hwi, (i + 1, S9), ⟨⟨?_, rfl⟩, ?_, Store.le_refl _⟩, ⟨hil, Store.le_trans hT (Store.le_trans hU hle9)⟩, ?_⟩
          · repeat' first | exact trivial | exact rfl | refine And.intro ?_ ?_
          · show [Res.row shO 33 ((rs.take i).flatten ++ row)] = [Res.row shO 33 (rs.take (i + 1)).flatten]
            rw [hnext]
          · show rs.length - (i + 1) < rs.length - i
            omega
      · have hUV : U.le U := Store.le_refl _
        have hlr : row.reverse.length = bn := by simp; omega
        have hdr := Store.rd_le hUV hdU
        refine ⟨or7_28, [], oF7_28, by kernel_rfl, i0, i1, b1, o1, hp1, (pi, row.length, ci), hk1, hdr, ?_⟩
        refine ⟨⟨_, rfl, rfl, rfl⟩, .inl ⟨_, _, _, apply_spec U b m (((hm1.le hT).le hU).le hUV) h1 (bp, bn, bc) row.reverse hlr (hbr.le hUV) (by simp; omega), fun S7 q7 hS7 ⟨es, hy1, hy2, hy3⟩ => ?_⟩⟩
        refine ⟨⟨_, rfl, rfl, rfl⟩, .inl ⟨_, _, _, apply_spec S7 b m ((((hm1.le hT).le hU).le hUV).le hS7) h1 (pi, row.length, ci) row rfl ((hrU.le hUV).le hS7) (by omega), fun S8 q8 hS8 ⟨fs, hz1, hz2, hz3⟩ => ?_⟩⟩
        refine ⟨⟨_, rfl, rfl, rfl⟩, .inl ⟨_, _, _, same_spec S8 q7 q8 es fs (hy1.le hS8) hy2 hz1 hz2, fun S9 x9 hS9 hx9 => ?_⟩⟩
        have hx9' : x9 = true := by
          have : x9 = true ↔ ∀ k, get es k = get fs k := hx9
          rw [this]
          intro k
          rw [hy3, hz3, app_rev hfin (fun x hx => hop x (by rw [← hflat]; exact List.mem_flatten.2 ⟨row, hmem, hx⟩)) hcom]
        clear hx9
        subst hx9'
        have hle9 := Store.le_trans hUV (Store.le_trans hS7 (Store.le_trans hS8 hS9))
        refine onF ⟨i0, i1, b1, o1, hp1, (pi, row.length, ci), hk1, Store.rd_le hle9 hdU, ?_⟩
        refine ⟨row, src_of rfl (hrU.le hle9), fun _ _ => ⟨trivial, trivial, trivial⟩, ?_, ?_⟩
        · show ((rs.take i).flatten.length + row.length) * 24 ≤ 140737488355328
          omega
        refine ⟨((i + 1 : Nat) : Int), hwi, (i + 1, S9), ⟨⟨?_, rfl⟩, ?_, Store.le_refl _⟩, ⟨hil, Store.le_trans hT (Store.le_trans hU hle9)⟩, ?_⟩
        · repeat' first | exact trivial | exact rfl | refine And.intro ?_ ?_
        · show [Res.row shO 33 ((rs.take i).flatten ++ row)] = [Res.row shO 33 (rs.take (i + 1)).flatten]
          rw [hnext]
        · show rs.length - (i + 1) < rs.length - i
          omega
  · have hil : i = rs.length := by
      have : ¬ ((i : Nat) : Int) < (rn : Int) := of_decide_eq_false h
      omega
    have hfl : (rs.take i).flatten = l := by rw [hil, List.take_length]; exact hflat
    have hll : (rs.take i).flatten.length = l.length := by rw [hfl]
    refine ⟨⟨_, rfl, rfl, rfl⟩, .inl fun p' c' S1' hle hr' => ⟨_, _, _, of_spec S1' (p', (rs.take i).flatten.length, c') (rs.take i).flatten rfl hr' (by omega), fun S2 u hS2 ⟨hu1, hu2⟩ => ?_⟩⟩
    refine ⟨⟨_, rfl, rfl, rfl⟩, .inl ⟨_, _, _, of_spec S2 (p, l.length, c) l rfl (((hr1.le hT).le hle).le hS2) (by omega), fun S3 v hS3 ⟨hv1, hv2⟩ => ?_⟩⟩
    refine ⟨⟨_, rfl, rfl, rfl⟩, .inl ⟨_, _, _, alike_spec S3 u v (rs.take i).flatten l hu1.symm (hu2.le hS3) hv1.symm hv2 (by omega), fun S4 x4 hS4 hx4 => ?_⟩⟩
    have hx4' : x4 = true := by
      have : x4 = alike (rs.take i).flatten l := hx4
      rw [this, hfl]
      exact alike_self _
    clear hx4
    subst hx4'
    exact onT ⟨⟨_, rfl, rfl, rfl⟩, .inl ⟨_, _, _, awake_spec _, fun S' x hS hx => ⟨rfl, x, rfl, hx⟩⟩⟩
end Go.Proofs.Ytfchicmekieclaa
