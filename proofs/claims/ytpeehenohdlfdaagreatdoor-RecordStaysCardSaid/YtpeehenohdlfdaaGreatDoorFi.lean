/- law57: Events, Same. -/
import Derived.Test.YtpeehenohdlfdaaGreatDoorFh
namespace Go.Proofs.YtpeehenohdlfdaaGreatDoor
open Go Go.Vc Go.Sort
set_option maxRecDepth 100000
set_option maxHeartbeats 4000000

theorem copied_spec (S : Store) (y : Ex) (e : Rc.Ev) (hy : EIs S y e) : Pure Tryz.prog 35 S [vE y] (A := Ex) rE (fun S' y => EIs S' y e) := by
  obtain ⟨yk, yt, yn, ⟨ynm, yq⟩, ye, yv⟩ := y
  refine pure_vc agrees Tryz.func35 rfl rfl (fun S S' q hle h => h.le hle) ?_
  refine ⟨⟨_, rfl, rfl, rfl⟩, .inl ⟨_, _, _, clone_spec S yq e.as hy.ar hy.cnt, fun S1 q hS1 hq => ⟨rfl, (yk, yt, yn, (ynm, q), ye, yv), rfl, ?_⟩⟩⟩
  have h1 := hy.le hS1
  exact ⟨h1.k, h1.t, h1.n, h1.nm, hq, h1.er, h1.va, h1.few, h1.cnt, h1.wide⟩
theorem okE (l : List Ex) : ∀ y ∈ l, shE.ok y := fun _ _ => ⟨trivial, trivial, trivial, ⟨trivial, trivial⟩, trivial, trivial⟩
theorem events_spec (S : Store) (x : Hx) (l : List Rc.Ev) (hx : HIs S x l) : Pure Tryz.prog 18 S [vH x] (A := Hd) (fun q => .c (.v (slV q))) (fun S' q => LIs S' q l) := by
  have hll := Rc.hist_len hx.hs
  obtain ⟨⟨p, n, c⟩, ob, lb⟩ := x
  obtain ⟨L, rfl, hlen, hcap, hr, hK⟩ := hx.ls
  have hlen : n = L.length := hlen
  subst hlen
  have hr : RowRd S p shE (L.map (·.1)) := hr
  rw [List.length_map] at hll
  refine pure_vc agrees Tryz.func18 rfl rfl (fun S S' q hle h => h.le hle) ?_
  refine ⟨[], [(3, shE, 47)], Nat × List (Ex × Rc.Ev) × Store, [4, 5] ++ List.range' 10 9, fun a => [(9, rI a.1)], fun a => [.box [.v (slV (p, L.length, c)), .v (.map ob), .v (.map lb)], .row shE 47 (a.2.1.map (·.1))], fun a => a.2.2,
    fun a => a.1 ≤ L.length ∧ S.le a.2.2 ∧ a.2.1.map (·.2) = (L.take a.1).map (·.2) ∧ ∀ z ∈ a.2.1, EIs a.2.2 z.1 z.2, fun a => L.length - a.1, ?_⟩
  refine And.intro (Exists.intro (0, [], S) (And.intro (And.intro (And.intro ?_ rfl) (And.intro rfl (Store.le_refl _))) ⟨Nat.zero_le _, Store.le_refl _, rfl, fun z hz => (by cases hz)⟩)) ?_
  · repeat' first | exact trivial | exact rfl | refine And.intro ?_ ?_
  rintro ⟨i, M, Sa⟩ ⟨hi, hSa, hM, hMK⟩
  have hi : i ≤ L.length := hi
  have hSa : S.le Sa := hSa
  have hM : M.map (·.2) = (L.take i).map (·.2) := hM
  have hMK : ∀ z ∈ M, EIs Sa z.1 z.2 := hMK
  have hMl : M.length = i := by have := congrArg List.length hM; rw [List.length_map, List.length_map, List.length_take] at this; omega
  have i0 : (0 : Int) ≤ ((i : Nat) : Int) := Int.natCast_nonneg _
  refine And.intro (fun h => ?_) (fun h => ?_)
  · have hil : i < L.length := by
      have : ((i : Nat) : Int) < ((L.length : Nat) : Int) := of_decide_eq_true h
      omega
    obtain ⟨z, hz⟩ : ∃ z, L[i]? = some z := ⟨_, List.getElem?_eq_getElem hil⟩
    obtain ⟨b, o, hp, hok, hrd⟩ := row_at (hr.le hSa) (i := i) (x := z.1) (by rw [List.getElem?_map, hz]; rfl)
    have htk : L.take (i + 1) = L.take i ++ [z] := by rw [List.take_add_one, hz]; rfl
    have hzK := (hK z (List.mem_of_getElem? hz)).le hSa
    refine ⟨i0, by show ((i : Nat) : Int) < (L.length : Int); omega, b, o, hp, z.1, hok, hrd, ⟨_, rfl, rfl, rfl⟩, .inl ⟨_, _, _, copied_spec Sa z.1 z.2 hzK, fun S1 y hS1 hy => ?_⟩⟩
    refine ⟨[y], ⟨rfl, rfl⟩, okE _, by rw [List.length_map, hMl]; show (i + 1) * 80 ≤ 140737488355328; omega, ((i + 1 : Nat) : Int), wrap_i64 (by omega) (by omega), (i + 1, M ++ [(y, z.2)], S1), ⟨⟨?_, rfl⟩, ?_, Store.le_refl _⟩, ⟨hil, Store.le_trans hSa hS1, ?_, fun u hu => ?_⟩, by show L.length - (i + 1) < L.length - i; omega⟩
    · repeat' first | exact trivial | exact rfl | refine And.intro ?_ ?_
    · show [_, Res.row shE 47 _] = [_, Res.row shE 47 _]
      rw [List.map_append]; rfl
    · show (M ++ [(y, z.2)]).map (·.2) = (L.take (i + 1)).map (·.2)
      rw [htk, List.map_append, List.map_append, hM]; rfl
    · rcases List.mem_append.1 hu with hu | hu
      · exact (hMK u hu).le hS1
      · simp only [List.mem_singleton] at hu
        subst hu; exact hy
  · have hil : i = L.length := by
      have : ¬ ((i : Nat) : Int) < ((L.length : Nat) : Int) := of_decide_eq_false h
      omega
    subst hil
    rw [List.take_length] at hM
    intro p3 c3 S3 hS3 hr3 hpf3
    exact ⟨rfl, (p3, (M.map (·.1)).length, c3), rfl, M, hM, List.length_map _, pform_le hpf3.1, hr3, fun z hz => (hMK z hz).le hS3⟩
theorem equal_spec (S : Store) (p q : Hd) (ns : List Int) (hp : NsIs S p ns) (hq : NsIs S q ns) (hn : ns.length ≤ 1000000) : Pure Tryz.prog 48 S [slV p, slV q] (A := Unit) (fun _ => rB true) (fun _ _ => True) := by
  obtain ⟨pp, pn, pc⟩ := p
  obtain ⟨qp, qn, qc⟩ := q
  have e1 : pn = ns.length := hp.len
  have e2 : qn = ns.length := hq.len
  subst e1 e2
  have hpr : RowRd S pp shI ns := hp.row
  have hqr : RowRd S qp shI ns := hq.row
  refine pure_vc agrees Tryz.func48 rfl rfl (fun S S' q hle h => h) ?_
  refine offE (bne_eq_false_iff_eq.2 rfl) ?_
  refine ⟨[], [], Nat, [5] ++ List.range' 14 12, fun i => [(13, rI i)], fun _ => [], fun _ => S, fun i => i ≤ ns.length, fun i => ns.length - i, ?_⟩
  refine And.intro (Exists.intro 0 (And.intro (And.intro (And.intro ?_ rfl) (And.intro rfl (Store.le_refl _))) (Nat.zero_le _))) ?_
  · repeat' first | exact trivial | exact rfl | refine And.intro ?_ ?_
  rintro i hi
  have hi : i ≤ ns.length := hi
  have i0 : (0 : Int) ≤ ((i : Nat) : Int) := Int.natCast_nonneg _
  refine And.intro (fun h => ?_) (fun h => ?_)
  · have hil : i < ns.length := by
      have : ((i : Nat) : Int) < ((ns.length : Nat) : Int) := of_decide_eq_true h
      omega
    obtain ⟨u, hu⟩ : ∃ u, ns[i]? = some u := ⟨_, List.getElem?_eq_getElem hil⟩
    obtain ⟨b1, o1, hp1, -, hd1⟩ := row_at hpr hu
    obtain ⟨b2, o2, hp2, -, hd2⟩ := row_at hqr hu
    have g2 : ((i : Nat) : Int) < ((ns.length : Nat) : Int) := by omega
    refine ⟨or48_6, [], oF48_6, by kernel_rfl, i0, g2, b1, o1, hp1, u, trivial, hd1, i0, g2, b2, o2, hp2, u, trivial, hd2, ?_⟩
    refine offE (bne_eq_false_iff_eq.2 rfl) ⟨((i + 1 : Nat) : Int), wrap_i64 (by omega) (by omega), i + 1, ⟨⟨?_, rfl⟩, rfl, Store.le_refl _⟩, hil, by show ns.length - (i + 1) < ns.length - i; omega⟩
    repeat' first | exact trivial | exact rfl | refine And.intro ?_ ?_
  · exact ⟨rfl, (), rfl, trivial⟩
/-- What follows a region, held apart. -/
theorem abs_ord {P : Program} {tt : Nat → Option TI} {ops : Array Oper} {W F : List Nat} {K : SK} {o : Vc.Ord} {kn : List Nat} {t : List SV} {r : List Res} {S : Store} (h : ∀ K' : SK, K' = K → vcOrd P tt ops W F K' o kn t r S) : vcOrd P tt ops W F K o kn t r S := h K rfl
theorem same_spec (S : Store) (p q : Hd) (l : List Rc.Ev) (ha : LIs S p l) (hb : LIs S q l) (hn : l.length ≤ 1000000) : Pure Tryz.prog 25 S [slV p, slV q] (A := Unit) (fun _ => rB true) (fun _ _ => True) := by
  have ln := li_len ha
  have lm := li_len hb
  obtain ⟨L, hL, -, -, hpr, hpK⟩ := ha
  obtain ⟨M, hM, -, -, hqr, hqK⟩ := hb
  obtain ⟨p, n, c⟩ := p
  obtain ⟨q, m, d⟩ := q
  have ln : n = l.length := ln
  have lm : m = l.length := lm
  subst ln lm
  have hpr : RowRd S p shE (L.map (·.1)) := hpr
  have hqr : RowRd S q shE (M.map (·.1)) := hqr
  have hll : L.length = l.length := by rw [← hL, List.length_map]
  have hml : M.length = l.length := by rw [← hM, List.length_map]
  refine pure_vc agrees Tryz.func25 rfl rfl (fun S S' q hle h => h) ?_
  refine offE (bne_eq_false_iff_eq.2 rfl) ?_
  refine ⟨[], [], Nat, [5, 6, 7] ++ List.range' 16 56, fun i => [(15, rI i)], fun _ => [], fun _ => S, fun i => i ≤ l.length, fun i => l.length - i, ?_⟩
  refine And.intro (Exists.intro 0 (And.intro (And.intro (And.intro ?_ rfl) (And.intro rfl (Store.le_refl _))) (Nat.zero_le _))) ?_
  · repeat' first | exact trivial | exact rfl | refine And.intro ?_ ?_
  rintro i hi
  have hi : i ≤ l.length := hi
  have i0 : (0 : Int) ≤ ((i : Nat) : Int) := Int.natCast_nonneg _
  refine And.intro (fun h => ?_) (fun h => ?_)
  · have hil : i < l.length := by
      have : ((i : Nat) : Int) < ((l.length : Nat) : Int) := of_decide_eq_true h
      omega
    obtain ⟨x, hx⟩ : ∃ x, L[i]? = some x := ⟨_, List.getElem?_eq_getElem (by omega)⟩
    obtain ⟨y, hy⟩ : ∃ y, M[i]? = some y := ⟨_, List.getElem?_eq_getElem (by omega)⟩
    have hxy : x.2 = y.2 := by
      have h1 : l[i]? = some x.2 := by rw [← hL, List.getElem?_map, hx]; rfl
      have h2 : l[i]? = some y.2 := by rw [← hM, List.getElem?_map, hy]; rfl
      exact Option.some.inj (h1.symm.trans h2)
    obtain ⟨bx, ox, hpx, okx, hrdx⟩ := row_at hpr (i := i) (x := x.1) (by rw [List.getElem?_map, hx]; rfl)
    obtain ⟨by', oy, hpy, oky, hrdy⟩ := row_at hqr (i := i) (x := y.1) (by rw [List.getElem?_map, hy]; rfl)
    have hcx := hpK x (List.mem_of_getElem? hx)
    have hcy := hqK y (List.mem_of_getElem? hy)
    rw [← hxy] at hcy
    obtain ⟨x1, e⟩ := x
    obtain ⟨y1, e'⟩ := y
    have hcx : EIs S x1 e := hcx
    have hcy : EIs S y1 e := hcy
    have g2 : ((i : Nat) : Int) < ((l.length : Nat) : Int) := by omega
    have d1 : x1.1 = y1.1 := hcx.k.trans hcy.k.symm
    have d2 : x1.2.1 = y1.2.1 := hcx.t.trans hcy.t.symm
    have d3 : x1.2.2.1 = y1.2.2.1 := hcx.n.trans hcy.n.symm
    have d4 : x1.2.2.2.1.1 = y1.2.2.2.1.1 := hcx.nm.trans hcy.nm.symm
    have d5 : x1.2.2.2.2.1 = y1.2.2.2.2.1 := hcx.er.trans hcy.er.symm
    have d6 : x1.2.2.2.2.2 = y1.2.2.2.2.2 := hcx.va.trans hcy.va.symm
    have heq := equal_spec S x1.2.2.2.1.2 y1.2.2.2.1.2 e.as hcx.ar hcy.ar hcx.cnt
    obtain ⟨xk, xt, xn, ⟨xnm, xq⟩, xe, xv⟩ := x1
    obtain ⟨yk, yt, yn, ⟨ynm, yq⟩, ye, yv⟩ := y1
    have d1 : xk = yk := d1
    have d2 : xt = yt := d2
    have d3 : xn = yn := d3
    have d4 : xnm = ynm := d4
    have d5 : xe = ye := d5
    have d6 : xv = yv := d6
    subst d1 d2 d3 d4 d5 d6
    refine ⟨or25_6, [0, 1], oF25_6, by kernel_rfl, ?_⟩
    refine abs_ord fun K hK => ?_
    repeat' (first
      | exact trivial
      | refine ⟨i0, g2, bx, ox, hpx, ?_⟩
      | refine ⟨i0, g2, by', oy, hpy, ?_⟩
      | refine ⟨(xk, xt, xn, (xnm, xq), xe, xv), okx, hrdx, ?_⟩
      | refine ⟨(xk, xt, xn, (xnm, yq), xe, xv), oky, hrdy, ?_⟩
      | refine And.intro ?_ ?_)
    all_goals
      subst hK
      refine offE (bne_eq_false_iff_eq.2 rfl) (offE (bne_eq_false_iff_eq.2 rfl) (offE (bne_eq_false_iff_eq.2 rfl) (offE ?_ (offE ?_ ⟨⟨_, rfl, rfl, rfl⟩, .inl ⟨_, _, _, heq, fun S1 _ hS1 _ => ?_⟩⟩))))
      · simp
      · simp
      refine onF ⟨((i + 1 : Nat) : Int), wrap_i64 (by omega) (by omega), i + 1, ⟨⟨?_, rfl⟩, rfl, hS1⟩, hil, by show l.length - (i + 1) < l.length - i; omega⟩
      repeat' first | exact trivial | exact rfl | refine And.intro ?_ ?_
  · exact ⟨rfl, (), rfl, trivial⟩
end Go.Proofs.YtpeehenohdlfdaaGreatDoor
