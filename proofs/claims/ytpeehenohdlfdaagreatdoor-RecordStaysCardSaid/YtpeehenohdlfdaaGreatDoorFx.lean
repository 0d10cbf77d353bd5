/- law57: slices.Equal at []int; the reference's Pending. -/
import Derived.Test.YtpeehenohdlfdaaGreatDoorFw
namespace Go.Proofs.YtpeehenohdlfdaaGreatDoor
open Go Go.Vc
set_option maxRecDepth 100000
set_option maxHeartbeats 8000000

theorem equalP_spec (S : Store) (p q : Hd) (ns : List Int) (hp : PIs S p ns) (hq : PIs S q ns) (hn : ns.length ≤ 1000000) : Pure Tryz.prog 13 S [slV p, slV q] (A := Unit) (fun _ => rB true) (fun _ _ => True) := by
  obtain ⟨pp, pn, pc⟩ := p
  obtain ⟨qp, qn, qc⟩ := q
  have e1 : pn = ns.length := hp.len
  have e2 : qn = ns.length := hq.len
  subst e1 e2
  have hpr : RowRd S pp shI ns := hp.row
  have hqr : RowRd S qp shI ns := hq.row
  refine pure_vc agrees Tryz.func13 rfl rfl (fun S S' q hle h => h) ?_
  refine offE (bne_eq_false_iff_eq.2 rfl) ?_
  refine ⟨[], [], Nat, [5] ++ List.range' 14 12, fun i => [(13, rI i)], fun _ => [], fun _ => S, fun i => i ≤ ns.length, fun i => ns.length - i, ?_⟩
  refine And.intro (Exists.intro 0 (And.intro (And.intro (And.intro ?_ rfl) (And.intro rfl (Store.le_refl _))) (Nat.zero_le _))) ?_
  · repeat' first | exact trivial | exact rfl | refine And.intro ?_ ?_
  rintro i hi
  have hi : i ≤ ns.length := hi
  have i0 : (0 : Int) ≤ ((i : Nat) : Int) := Int.natCast_nonneg _
  refine And.intro (fun h => ?_) (fun h => ?_)
  · have hil : i < ns.length := by
      have : ((i : Nat) : Int) < ((ns.length : Nat) : Int) := of_decide_eq_true h
      omega
    obtain ⟨u, hu⟩ : ∃ u, ns[i]? = some u := ⟨_, List.getElem?_eq_getElem hil⟩
    obtain ⟨b1, o1, hp1, -, hd1⟩ := row_at hpr hu
    obtain ⟨b2, o2, hp2, -, hd2⟩ := row_at hqr hu
    have g2 : ((i : Nat) : Int) < ((ns.length : Nat) : Int) := by omega
    refine ⟨or13_6, [], oF13_6, by kernel_rfl, i0, g2, b1, o1, hp1, u, trivial, hd1, i0, g2, b2, o2, hp2, u, trivial, hd2, ?_⟩
    refine offE (bne_eq_false_iff_eq.2 rfl) ⟨((i + 1 : Nat) : Int), wrap_i64 (by omega) (by omega), i + 1, ⟨⟨?_, rfl⟩, rfl, Store.le_refl _⟩, hil, by show ns.length - (i + 1) < ns.length - i; omega⟩
    repeat' first | exact trivial | exact rfl | refine And.intro ?_ ?_
  · exact ⟨rfl, (), rfl, trivial⟩
/-- The pending calls among the first. -/
def pendT (l : List Rc.Ev) (i : Nat) : List Int := ((List.range i).filter (Rc.pends l)).map fun i : Nat => ((i : Nat) : Int)
theorem pendT_step (l : List Rc.Ev) (i : Nat) : pendT l (i + 1) = pendT l i ++ (if Rc.pends l i = true then [((i : Nat) : Int)] else []) := by
  unfold pendT
  rw [List.range_succ, List.filter_append, List.map_append]
  congr 1
  by_cases h : Rc.pends l i = true
  · rw [if_pos h, List.filter_cons_of_pos h]; rfl
  · rw [if_neg h, List.filter_cons_of_neg h]; rfl
theorem pendT_len (l : List Rc.Ev) (i : Nat) : (pendT l i).length ≤ i := by
  unfold pendT
  have := List.length_filter_le (Rc.pends l) (List.range i)
  rwa [List.length_range, ← List.length_map (f := fun i : Nat => ((i : Nat) : Int))] at this
theorem scan_cons (t n : Int) (e : Rc.Ev) (r : List Rc.Ev) : Rc.scan t n (e :: r) = if e.k = 3 then true else if e.k = 1 ∧ e.t = t ∧ e.n = n then false else Rc.scan t n r := rfl
theorem refPending_spec (S : Store) (q : Hd) (l : List Rc.Ev) (hl : LIs S q l) (hll : l.length ≤ 1000000) : Pure Tryz.prog 15 S [slV q] (A := Hd) (fun q => .c (.v (slV q))) (fun S' q => PIs S' q (pendI l)) := by
  have hq := li_len hl
  obtain ⟨p, n, c⟩ := q
  have hq : n = l.length := hq
  subst hq
  refine pure_vc agrees Tryz.func15 rfl rfl (fun S S' q hle h => h.le hle) ?_
  refine ⟨[], [(3, shI, 3)], Nat, [5, 6] ++ List.range' 7 66, fun i => [(4, rI i)], fun i => [.row shI 3 (pendT l i)], fun _ => S, fun i => i ≤ l.length, fun i => l.length - i, ?_⟩
  refine And.intro (Exists.intro 0 (And.intro (And.intro (And.intro ?_ rfl) (And.intro rfl (Store.le_refl _))) (Nat.zero_le _))) ?_
  · repeat' first | exact trivial | exact rfl | refine And.intro ?_ ?_
  rintro i hi
  have hi : i ≤ l.length := hi
  have i0 : (0 : Int) ≤ ((i : Nat) : Int) := Int.natCast_nonneg _
  refine And.intro (fun h => ?_) (fun h => ?_)
  · have hil : i < l.length := by
      have : ((i : Nat) : Int) < ((l.length : Nat) : Int) := of_decide_eq_true h
      omega
    clear h
    have gi : ((i : Nat) : Int) < ((l.length : Nat) : Int) := by omega
    obtain ⟨x, e, b, o, he, hx, hp, hrd⟩ := ev_at hl hil
    have wi : IntKind.i64.wrap (((i : Nat) : Int) + 1) = ((i + 1 : Nat) : Int) := wrap_i64 (by omega) (by omega)
    have hmu : l.length - (i + 1) < l.length - i := by omega
    have hst := pendT_step l i
    have hpn := pendT_len l i
    obtain ⟨xk, xt, xn, xr⟩ := x
    have hk : xk = e.k := hx.k
    have ht : xt = e.t := hx.t
    have hn : xn = e.n := hx.n
    have r0 := rd_field (f := 0) hrd rfl
    have r1 := rd_field (f := 1) hrd rfl
    have r2 := rd_field (f := 2) hrd rfl
    have hpe : Rc.pends l i = (decide (e.k = 0) && Rc.scan e.t e.n (l.drop (i + 1))) := by unfold Rc.pends; rw [he]
    refine ⟨i0, gi, b, o, hp, xk, trivial, r0, ?_⟩
    by_cases h0 : e.k = 0
    · refine offE (bne_eq_false_iff_eq.2 (hk.trans h0)) ?_
      rw [decide_eq_true h0, Bool.true_and] at hpe
      refine ⟨((i + 1 : Nat) : Int), wi, ?_⟩
      refine ⟨[], [], Bool × Nat, List.range' 21 46, fun a => [(5, rB a.1), (6, rI a.2)], fun _ => [.row shI 3 (pendT l i)], fun _ => S, fun a => i + 1 ≤ a.2 ∧ a.2 ≤ l.length ∧ (a.1 && Rc.scan e.t e.n (l.drop a.2)) = Rc.scan e.t e.n (l.drop (i + 1)), fun a => l.length - a.2, ?_⟩
      refine And.intro (Exists.intro (true, i + 1) (And.intro (And.intro (And.intro ?_ rfl) (And.intro rfl (Store.le_refl _))) ⟨Nat.le_refl _, hil, by rw [Bool.true_and]⟩)) ?_
      · repeat' first | exact trivial | exact rfl | refine And.intro ?_ ?_
      rintro ⟨fl, j⟩ ⟨hj1, hj, hinv⟩
      have hj1 : i + 1 ≤ j := hj1
      have hj : j ≤ l.length := hj
      have hinv : (fl && Rc.scan e.t e.n (l.drop j)) = Rc.scan e.t e.n (l.drop (i + 1)) := hinv
      have j0 : (0 : Int) ≤ ((j : Nat) : Int) := Int.natCast_nonneg _
      by_cases hjl : j < l.length
      · refine onE (decide_eq_true (by show ((j : Nat) : Int) < ((l.length : Nat) : Int); omega)) ?_
        have gj : ((j : Nat) : Int) < ((l.length : Nat) : Int) := by omega
        obtain ⟨y, a, b2, o2, ha, hy, hp2, hrd2⟩ := ev_at hl hjl
        obtain ⟨yk, yt, yn, yr⟩ := y
        have hyk : yk = a.k := hy.k
        have hyt : yt = a.t := hy.t
        have hyn : yn = a.n := hy.n
        have s0 := rd_field (f := 0) hrd2 rfl
        have s1 := rd_field (f := 1) hrd2 rfl
        have s2 := rd_field (f := 2) hrd2 rfl
        have hdr : l.drop j = a :: l.drop (j + 1) := by
          rw [List.getElem?_eq_getElem hjl] at ha
          rw [← Option.some.inj ha, List.getElem_cons_drop]
        rw [hdr] at hinv
        rw [scan_cons] at hinv
        refine ⟨j0, gj, b2, o2, hp2, yk, trivial, s0, ?_⟩
        by_cases h3 : a.k = 3
        · refine offE (bne_eq_false_iff_eq.2 (hyk.trans h3)) ?_
          rw [if_pos h3, Bool.and_true] at hinv
          refine And.intro (fun hf => ?_) (fun hf => ?_)
          · have hf : fl = true := hf
            rw [← hinv, hf] at hpe
            rw [hpe, if_pos rfl] at hst
            refine ⟨[((i : Nat) : Int)], ⟨rfl, rfl⟩, fun _ _ => trivial, by show ((pendT l i).length + 1) * 8 ≤ 140737488355328; omega, ((i + 1 : Nat) : Int), wi, i + 1, ⟨⟨?_, rfl⟩, ?_, Store.le_refl _⟩, hil, hmu⟩
            · repeat' first | exact trivial | exact rfl | refine And.intro ?_ ?_
            · show [Res.row shI 3 _] = [Res.row shI 3 (pendT l (i + 1))]
              rw [hst]
          · have hf : fl = false := hf
            rw [← hinv, hf] at hpe
            rw [hpe, if_neg (by simp), List.append_nil] at hst
            refine ⟨((i + 1 : Nat) : Int), wi, i + 1, ⟨⟨?_, rfl⟩, ?_, Store.le_refl _⟩, hil, hmu⟩
            · repeat' first | exact trivial | exact rfl | refine And.intro ?_ ?_
            · show [Res.row shI 3 (pendT l i)] = [Res.row shI 3 (pendT l (i + 1))]
              rw [hst]
        · refine onE (bne_iff_ne.2 (fun q => h3 (hyk.symm.trans q))) ?_
          rw [if_neg h3] at hinv
          have wj : IntKind.i64.wrap (((j : Nat) : Int) + 1) = ((j + 1 : Nat) : Int) := wrap_i64 (by omega) (by omega)
          have hmu2 : l.length - (j + 1) < l.length - j := by omega
          refine ⟨or15_10, [], oF15_10, by kernel_rfl, j0, gj, b2, o2, hp2, yk, trivial, s0, ?_⟩
          have stay : ∀ f2 : Bool, (f2 && Rc.scan e.t e.n (l.drop (j + 1))) = Rc.scan e.t e.n (l.drop (i + 1)) → i + 1 ≤ j + 1 ∧ j + 1 ≤ l.length ∧ (f2 && Rc.scan e.t e.n (l.drop (j + 1))) = Rc.scan e.t e.n (l.drop (i + 1)) := fun f2 h => ⟨by omega, hjl, h⟩
          by_cases k1 : a.k = 1
          · refine onE (beq_iff_eq.2 (hyk.trans k1)) ⟨j0, gj, b2, o2, hp2, yt, trivial, s1, i0, gi, b, o, hp, xt, trivial, r1, ?_⟩
            by_cases kt : yt = xt
            · refine onE (beq_iff_eq.2 kt) ⟨j0, gj, b2, o2, hp2, yn, trivial, s2, i0, gi, b, o, hp, xn, trivial, r2, ?_⟩
              by_cases kn : yn = xn
              · rw [if_pos ⟨k1, hyt.symm.trans (kt.trans ht), hyn.symm.trans (kn.trans hn)⟩, Bool.and_false] at hinv
                refine onE (beq_iff_eq.2 kn) ⟨((j + 1 : Nat) : Int), wj, (false, j + 1), ⟨⟨?_, rfl⟩, rfl, Store.le_refl _⟩, stay false (by rw [← hinv]; rfl), hmu2⟩
                repeat' first | exact trivial | exact rfl | refine And.intro ?_ ?_
              · rw [if_neg (fun q => kn (hyn.trans (q.2.2.trans hn.symm)))] at hinv
                refine offE (beq_eq_false_iff_ne.2 kn) ⟨((j + 1 : Nat) : Int), wj, (fl, j + 1), ⟨⟨?_, rfl⟩, rfl, Store.le_refl _⟩, stay fl hinv, hmu2⟩
                repeat' first | exact trivial | exact rfl | refine And.intro ?_ ?_
            · rw [if_neg (fun q => kt (hyt.trans (q.2.1.trans ht.symm)))] at hinv
              refine offE (beq_eq_false_iff_ne.2 kt) (onF ⟨((j + 1 : Nat) : Int), wj, (fl, j + 1), ⟨⟨?_, rfl⟩, rfl, Store.le_refl _⟩, stay fl hinv, hmu2⟩)
              repeat' first | exact trivial | exact rfl | refine And.intro ?_ ?_
          · rw [if_neg (fun q => k1 q.1)] at hinv
            refine offE (beq_eq_false_iff_ne.2 (fun q => k1 (hyk.symm.trans q))) (onF (onF ⟨((j + 1 : Nat) : Int), wj, (fl, j + 1), ⟨⟨?_, rfl⟩, rfl, Store.le_refl _⟩, stay fl hinv, hmu2⟩))
            repeat' first | exact trivial | exact rfl | refine And.intro ?_ ?_
      · refine offE (decide_eq_false (by show ¬ ((j : Nat) : Int) < ((l.length : Nat) : Int); omega)) (onF ?_)
        rw [List.drop_eq_nil_of_le (by omega)] at hinv
        have hinv : (fl && true) = _ := hinv
        rw [Bool.and_true] at hinv
        refine And.intro (fun hf => ?_) (fun hf => ?_)
        · have hf : fl = true := hf
          rw [← hinv, hf] at hpe
          rw [hpe, if_pos rfl] at hst
          refine ⟨[((i : Nat) : Int)], ⟨rfl, rfl⟩, fun _ _ => trivial, by show ((pendT l i).length + 1) * 8 ≤ 140737488355328; omega, ((i + 1 : Nat) : Int), wi, i + 1, ⟨⟨?_, rfl⟩, ?_, Store.le_refl _⟩, hil, hmu⟩
          · repeat' first | exact trivial | exact rfl | refine And.intro ?_ ?_
          · show [Res.row shI 3 _] = [Res.row shI 3 (pendT l (i + 1))]
            rw [hst]
        · have hf : fl = false := hf
          rw [← hinv, hf] at hpe
          rw [hpe, if_neg (by simp), List.append_nil] at hst
          refine ⟨((i + 1 : Nat) : Int), wi, i + 1, ⟨⟨?_, rfl⟩, ?_, Store.le_refl _⟩, hil, hmu⟩
          · repeat' first | exact trivial | exact rfl | refine And.intro ?_ ?_
          · show [Res.row shI 3 (pendT l i)] = [Res.row shI 3 (pendT l (i + 1))]
            rw [hst]
    · refine onE (bne_iff_ne.2 (fun q => h0 (hk.symm.trans q))) ?_
      rw [decide_eq_false h0, Bool.false_and] at hpe
      rw [hpe, if_neg (by simp), List.append_nil] at hst
      refine ⟨((i + 1 : Nat) : Int), wi, i + 1, ⟨⟨?_, rfl⟩, ?_, Store.le_refl _⟩, hil, hmu⟩
      · repeat' first | exact trivial | exact rfl | refine And.intro ?_ ?_
      · show [Res.row shI 3 (pendT l i)] = [Res.row shI 3 (pendT l (i + 1))]
        rw [hst]
  · have hil : i = l.length := by
      have : ¬ ((i : Nat) : Int) < ((l.length : Nat) : Int) := of_decide_eq_false h
      omega
    subst hil
    intro p3 c3 S3 hS3 hr3 hpf3
    exact ⟨rfl, (p3, (pendT l l.length).length, c3), rfl, rfl, pform_le hpf3.1, hr3⟩
end Go.Proofs.YtpeehenohdlfdaaGreatDoor
