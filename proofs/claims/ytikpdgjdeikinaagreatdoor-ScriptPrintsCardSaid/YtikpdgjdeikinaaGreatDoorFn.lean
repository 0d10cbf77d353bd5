/- law63: of, Same. -/
import Derived.Test.YtikpdgjdeikinaaGreatDoorFk
namespace Go.Proofs.YtikpdgjdeikinaaGreatDoor
open Go Go.Vc Go.Sort
set_option maxRecDepth 100000
set_option maxHeartbeats 8000000

theorem of_spec (S : Store) (q : Hd) (l : List Sc.Cmd) (hl : LIs S q l) (hn : l.length ≤ 1000000) : Pure Tryz.prog 11 S [slV q] (A := Hd) (fun q => .c (.v (slV q))) (fun S' q => LIs S' q l) := by
  obtain ⟨L, rfl, hlen, hcap, hr, hK⟩ := hl
  obtain ⟨p, n, c⟩ := q
  have hlen : n = L.length := hlen
  subst hlen
  have hr : RowRd S p shC (L.map (·.1)) := hr
  rw [List.length_map] at hn
  refine pure_vc agrees Tryz.func11 rfl rfl (fun S S' q hle h => h.le hle) ?_
  refine ⟨[], [(3, shC, 30)], Nat, [4, 5] ++ List.range' 9 9, fun i => [(8, rI i)], fun i => [.row shC 30 ((L.take i).map (·.1))], fun _ => S, fun i => i ≤ L.length, fun i => L.length - i, ?_⟩
  refine And.intro (Exists.intro 0 (And.intro (And.intro (And.intro ?_ rfl) (And.intro rfl (Store.le_refl _))) (Nat.zero_le _))) ?_
  · repeat' first | exact trivial | exact rfl | refine And.intro ?_ ?_
  rintro i hi
  have i0 : (0 : Int) ≤ ((i : Nat) : Int) := Int.natCast_nonneg _
  refine And.intro (fun h => ?_) (fun h => ?_)
  · have hil : i < L.length := by
      have : ((i : Nat) : Int) < ((L.length : Nat) : Int) := of_decide_eq_true h
      omega
    obtain ⟨z, hz⟩ : ∃ z, L[i]? = some z := ⟨_, List.getElem?_eq_getElem hil⟩
    obtain ⟨b, o, hp, hok, hrd⟩ := row_at hr (i := i) (x := z.1) (by rw [List.getElem?_map, hz]; rfl)
    have htk : L.take (i + 1) = L.take i ++ [z] := by rw [List.take_add_one, hz]; rfl
    refine ⟨i0, by show ((i : Nat) : Int) < (L.length : Int); omega, b, o, hp, z.1, hok, hrd, ?_⟩
    refine ⟨[z.1], ⟨rfl, rfl⟩, okC _, by rw [List.length_map, List.length_take]; show (min i L.length + 1) * 64 ≤ 140737488355328; omega, ((i + 1 : Nat) : Int), wrap_i64 (by omega) (by omega), i + 1, ⟨⟨?_, rfl⟩, ?_, Store.le_refl _⟩, hil, by show L.length - (i + 1) < L.length - i; omega⟩
    · repeat' first | exact trivial | exact rfl | refine And.intro ?_ ?_
    · show [Res.row shC 30 _] = [Res.row shC 30 _]
      rw [htk, List.map_append]; rfl
  · have hil : i = L.length := by
      have : ¬ ((i : Nat) : Int) < ((L.length : Nat) : Int) := of_decide_eq_false h
      omega
    subst hil
    intro p3 c3 S3 hS3 hr3 hpf3
    have hr4 : RowRd S3 p3 shC (L.map (·.1)) := by have := hr3; rw [List.take_length] at this; exact this
    have hle := pform_le hpf3.1
    refine ⟨rfl, (p3, ((L.take L.length).map (·.1)).length, c3), rfl, L, rfl, by rw [List.take_length, List.length_map], hle, hr4, fun z hz => (hK z hz).le hS3⟩
/-- Two commands alike. -/
def eqC (lines : Bool) (c d : Sc.Cmd) : Prop := (lines = true → c.1 = d.1) ∧ c.2 = d.2
def sameP (lines : Bool) (a b : List Sc.Cmd) : Prop := a.length = b.length ∧ ∀ (i : Nat) c d, a[i]? = some c → b[i]? = some d → eqC lines c d
/-- What follows a region, held apart. -/
theorem abs_ord {P : Program} {tt : Nat → Option TI} {ops : Array Oper} {W F : List Nat} {K : SK} {o : Vc.Ord} {kn : List Nat} {t : List SV} {r : List Res} {S : Store} (h : ∀ K' : SK, K' = K → vcOrd P tt ops W F K' o kn t r S) : vcOrd P tt ops W F K o kn t r S := h K rfl
/-- What the store knows of a command, part by part. -/
structure Pts (S : Store) (xl xo : Int) (xnp : Option Addr) (xnn : Nat) (xwp : Option Addr) (xwn : Nat) (c : Sc.Cmd) : Prop where
  line' : xl = c.1
  op' : xo = c.2.1
  nn : xnn = c.2.2.1.length
  nr : RowRd S xnp shI c.2.2.1
  wn : xwn = c.2.2.2.length
  wr : RowRd S xwp .str (c.2.2.2.map bs)
theorem parts_of {S : Store} {xl xo : Int} {xnp : Option Addr} {xnn xnc : Nat} {xwp : Option Addr} {xwn xwc : Nat} {c : Sc.Cmd} (h : CIs S (xl, xo, (xnp, xnn, xnc), (xwp, xwn, xwc)) c) : Pts S xl xo xnp xnn xwp xwn c :=
  ⟨h.line, h.op, h.ns.len, h.ns.row, h.ws.len, h.ws.row⟩
theorem nosame {lines : Bool} {L M : List (Cx × Sc.Cmd)} {i : Nat} {x y : Cx × Sc.Cmd} (hx : L[i]? = some x) (hy : M[i]? = some y) (h : ¬ eqC lines x.2 y.2) : (false = true ↔ sameP lines (L.map (·.2)) (M.map (·.2))) :=
  ⟨(fun q => by cases q), fun q => absurd (q.2 i x.2 y.2 (by rw [List.getElem?_map, hx]; rfl) (by rw [List.getElem?_map, hy]; rfl)) h⟩
theorem same_spec (S : Store) (p q : Hd) (a b : List Sc.Cmd) (ha : LIs S p a) (hb : LIs S q b) (ha1 : a.length ≤ 1000000) (hn : ∀ c ∈ a, c.2.2.1.length ≤ 1000000 ∧ c.2.2.2.length ≤ 1000000) (lines : Bool) : Pure Tryz.prog 10 S [slV p, slV q, .bool lines] rB (fun _ r => (r = true ↔ sameP lines a b)) := by
  obtain ⟨L, rfl, hpl, hpc, hpr, hpK⟩ := ha
  obtain ⟨M, rfl, hql, hqc, hqr, hqK⟩ := hb
  obtain ⟨p, n, c⟩ := p
  obtain ⟨q, m, d⟩ := q
  have hpl : n = L.length := hpl
  have hql : m = M.length := hql
  subst hpl hql
  have hpr : RowRd S p shC (L.map (·.1)) := hpr
  have hqr : RowRd S q shC (M.map (·.1)) := hqr
  rw [List.length_map] at ha1
  refine pure_vc agrees Tryz.func10 rfl rfl (fun S S' q hle h => h) ?_
  by_cases hlen : L.length = M.length
  · refine offE (bne_eq_false_iff_eq.2 (show ((L.length : Nat) : Int) = ((M.length : Nat) : Int) by omega)) ?_
    refine ⟨[], [], Nat, [8, 9, 10, 11] ++ List.range' 17 83, fun i => [(7, rI i)], fun _ => [], fun _ => S, fun i => i ≤ L.length ∧ ∀ (j : Nat) x y, j < i → L[j]? = some x → M[j]? = some y → eqC lines x.2 y.2, fun i => L.length - i, ?_⟩
    refine And.intro (Exists.intro 0 (And.intro (And.intro (And.intro ?_ rfl) (And.intro rfl (Store.le_refl _))) ⟨Nat.zero_le _, fun j x y h => absurd h (Nat.not_lt_zero _)⟩)) ?_
    · repeat' first | exact trivial | exact rfl | refine And.intro ?_ ?_
    rintro i ⟨hi, hall⟩
    have i0 : (0 : Int) ≤ ((i : Nat) : Int) := Int.natCast_nonneg _
    refine And.intro (fun h => ?_) (fun h => ?_)
    · have hil : i < L.length := by
        have : ((i : Nat) : Int) < ((L.length : Nat) : Int) := of_decide_eq_true h
        omega
      obtain ⟨x, hx⟩ : ∃ x, L[i]? = some x := ⟨_, List.getElem?_eq_getElem hil⟩
      obtain ⟨y, hy⟩ : ∃ y, M[i]? = some y := ⟨_, List.getElem?_eq_getElem (by omega)⟩
      obtain ⟨bx, ox, hpx, hokx, hrdx⟩ := row_at hpr (i := i) (x := x.1) (by rw [List.getElem?_map, hx]; rfl)
      obtain ⟨by', oy, hpy, hoky, hrdy⟩ := row_at hqr (i := i) (x := y.1) (by rw [List.getElem?_map, hy]; rfl)
      have hcx := hpK x (List.mem_of_getElem? hx)
      have hcy := hqK y (List.mem_of_getElem? hy)
      obtain ⟨⟨xl, xo, ⟨xnp, xnn, xnc⟩, ⟨xwp, xwn, xwc⟩⟩, cx⟩ := x
      obtain ⟨⟨yl, yo, ⟨ynp, ynn, ync⟩, ⟨ywp, ywn, ywc⟩⟩, cy⟩ := y
      have hcx : Pts S xl xo xnp xnn xwp xwn cx := parts_of hcx
      have hcy : Pts S yl yo ynp ynn ywp ywn cy := parts_of hcy
      have hbd : cx.2.2.1.length ≤ 1000000 ∧ cx.2.2.2.length ≤ 1000000 := hn cx (by rw [List.mem_map]; exact ⟨_, List.mem_of_getElem? hx, rfl⟩)
      have elx : xl = yl → cx.1 = cy.1 := fun q => by rw [← hcx.line', q, hcy.line']
      have g1 : (0 : Int) ≤ ((i : Nat) : Int) := i0
      have g2 : ((i : Nat) : Int) < ((L.length : Nat) : Int) := by omega
      have g3 : ((i : Nat) : Int) < ((M.length : Nat) : Int) := by omega
      refine ⟨or10_6, [0, 1], oF10_6, by kernel_rfl, ?_⟩
      refine abs_ord fun K hK => ?_
      refine ⟨g1, g2, bx, ox, hpx, ⟨(xl, xo, (xnp, xnn, xnc), (xwp, xwn, xwc)), hokx, hrdx, And.intro (⟨g1, g3, by', oy, hpy, And.intro (⟨(yl, yo, (ynp, ynn, ync), (ywp, ywn, ywc)), hoky, hrdy, And.intro (?xy) (And.intro (?yx) (trivial))⟩) (And.intro (And.intro (⟨(yl, yo, (ynp, ynn, ync), (ywp, ywn, ywc)), hoky, hrdy, ?xy⟩) (And.intro (And.intro (⟨(yl, yo, (ynp, ynn, ync), (ywp, ywn, ywc)), hoky, hrdy, ?xy⟩) (And.intro (⟨(yl, yo, (ynp, ynn, ync), (ywp, ywn, ywc)), hoky, hrdy, ?xy⟩) (trivial))) (trivial))) (And.intro (And.intro (⟨(yl, yo, (ynp, ynn, ync), (ywp, ywn, ywc)), hoky, hrdy, ?yx⟩) (And.intro (And.intro (⟨(yl, yo, (ynp, ynn, ync), (ywp, ywn, ywc)), hoky, hrdy, ?yx⟩) (And.intro (⟨(yl, yo, (ynp, ynn, ync), (ywp, ywn, ywc)), hoky, hrdy, ?yx⟩) (trivial))) (trivial))) (trivial)))⟩) (And.intro (And.intro (⟨g1, g3, by', oy, hpy, And.intro (⟨(yl, yo, (ynp, ynn, ync), (ywp, ywn, ywc)), hoky, hrdy, ?xy⟩) (And.intro (And.intro (⟨(yl, yo, (ynp, ynn, ync), (ywp, ywn, ywc)), hoky, hrdy, ?xy⟩) (And.intro (⟨(yl, yo, (ynp, ynn, ync), (ywp, ywn, ywc)), hoky, hrdy, ?xy⟩) (trivial))) (trivial))⟩) (And.intro (And.intro (⟨g1, g3, by', oy, hpy, And.intro (⟨(yl, yo, (ynp, ynn, ync), (ywp, ywn, ywc)), hoky, hrdy, ?xy⟩) (And.intro (⟨(yl, yo, (ynp, ynn, ync), (ywp, ywn, ywc)), hoky, hrdy, ?xy⟩) (trivial))⟩) (And.intro (⟨g1, g3, by', oy, hpy, ⟨(yl, yo, (ynp, ynn, ync), (ywp, ywn, ywc)), hoky, hrdy, ?xy⟩⟩) (trivial))) (trivial))) (And.intro (And.intro (⟨g1, g3, by', oy, hpy, And.intro (⟨(yl, yo, (ynp, ynn, ync), (ywp, ywn, ywc)), hoky, hrdy, ?yx⟩) (And.intro (And.intro (⟨(yl, yo, (ynp, ynn, ync), (ywp, ywn, ywc)), hoky, hrdy, ?yx⟩) (And.intro (⟨(yl, yo, (ynp, ynn, ync), (ywp, ywn, ywc)), hoky, hrdy, ?yx⟩) (trivial))) (trivial))⟩) (And.intro (And.intro (⟨g1, g3, by', oy, hpy, And.intro (⟨(yl, yo, (ynp, ynn, ync), (ywp, ywn, ywc)), hoky, hrdy, ?yx⟩) (And.intro (⟨(yl, yo, (ynp, ynn, ync), (ywp, ywn, ywc)), hoky, hrdy, ?yx⟩) (trivial))⟩) (And.intro (⟨g1, g3, by', oy, hpy, ⟨(yl, yo, (ynp, ynn, ync), (ywp, ywn, ywc)), hoky, hrdy, ?yx⟩⟩) (trivial))) (trivial))) (trivial)))⟩⟩
      all_goals
        subst hK
        cases lines with
        | true =>
          refine onT ?_
          by_cases el : xl = yl
          · refine offE (bne_eq_false_iff_eq.2 el) ?_
            by_cases eo : xo = yo
            rotate_left
            · exact onE (bne_iff_ne.2 eo) (onT (onT ⟨rfl, false, rfl, nosame hx hy fun q => eo (by rw [hcx.op', hcy.op', q.2])⟩))
            refine offE (bne_eq_false_iff_eq.2 eo) ?_
            by_cases en : xnn = ynn
            rotate_left
            · exact onE (bne_iff_ne.2 (show ¬ ((xnn : Nat) : Int) = ((ynn : Nat) : Int) by omega)) (onT ⟨rfl, false, rfl, nosame hx hy fun q => en (by rw [hcx.nn, hcy.nn, q.2])⟩)
            refine offE (bne_eq_false_iff_eq.2 (show ((xnn : Nat) : Int) = ((ynn : Nat) : Int) by omega)) ?_
            by_cases ew : xwn = ywn
            rotate_left
            · exact onE (bne_iff_ne.2 (show ¬ ((xwn : Nat) : Int) = ((ywn : Nat) : Int) by omega)) ⟨rfl, false, rfl, nosame hx hy fun q => ew (by rw [hcx.wn, hcy.wn, q.2])⟩
            refine offE (bne_eq_false_iff_eq.2 (show ((xwn : Nat) : Int) = ((ywn : Nat) : Int) by omega)) ?_
            first
             | refine ⟨[], [], Nat, List.range' 64 36, fun k => [(10, rI k)], fun _ => [.box [.v (.int .i64 xl), .v (.int .i64 xo), .v (.slice xnp xnn xnc), .v (.slice xwp xwn xwc)], .box [.v (.int .i64 yl), .v (.int .i64 yo), .v (.slice ynp ynn ync), .v (.slice ywp ywn ywc)]], fun _ => S, fun k => k ≤ (cx.2.2.1).length ∧ (cx.2.2.1).take k = (cy.2.2.1).take k, fun k => (cx.2.2.1).length - k, And.intro (Exists.intro 0 (And.intro (And.intro (And.intro ?_ rfl) (And.intro rfl (Store.le_refl _))) ⟨Nat.zero_le _, rfl⟩)) ?_⟩
             | refine ⟨[], [], Nat, List.range' 64 36, fun k => [(10, rI k)], fun _ => [.box [.v (.int .i64 yl), .v (.int .i64 yo), .v (.slice ynp ynn ync), .v (.slice ywp ywn ywc)], .box [.v (.int .i64 xl), .v (.int .i64 xo), .v (.slice xnp xnn xnc), .v (.slice xwp xwn xwc)]], fun _ => S, fun k => k ≤ (cx.2.2.1).length ∧ (cx.2.2.1).take k = (cy.2.2.1).take k, fun k => (cx.2.2.1).length - k, And.intro (Exists.intro 0 (And.intro (And.intro (And.intro ?_ rfl) (And.intro rfl (Store.le_refl _))) ⟨Nat.zero_le _, rfl⟩)) ?_⟩
            · repeat' first | exact trivial | exact rfl | refine And.intro ?_ ?_
            rintro k ⟨hk, hks⟩
            have hk : k ≤ cx.2.2.1.length := hk
            have k0 : (0 : Int) ≤ ((k : Nat) : Int) := Int.natCast_nonneg _
            refine And.intro (fun h => ?_) (fun h => ?_)
            · have hkl : k < cx.2.2.1.length := by
                have h : ((k : Nat) : Int) < ((xnn : Nat) : Int) := of_decide_eq_true h
                have := hcx.nn; omega
              obtain ⟨u, hu⟩ : ∃ u, cx.2.2.1[k]? = some u := ⟨_, List.getElem?_eq_getElem hkl⟩
              obtain ⟨v, hv⟩ : ∃ v, cy.2.2.1[k]? = some v := ⟨_, List.getElem?_eq_getElem (by have := hcx.nn; have := hcy.nn; omega)⟩
              obtain ⟨b1, o1, hp1, -, hd1⟩ := row_at hcx.nr hu
              obtain ⟨b2, o2, hp2, -, hd2⟩ := row_at hcy.nr hv
              refine ⟨or10_12, [], oF10_12, by kernel_rfl, k0, by show ((k : Nat) : Int) < ((xnn : Nat) : Int); have := hcx.nn; omega, b1, o1, hp1, u, trivial, hd1, k0, by show ((k : Nat) : Int) < ((ynn : Nat) : Int); have := hcx.nn; omega, b2, o2, hp2, v, trivial, hd2, ?_⟩
              by_cases euv : u = v
              · refine offE (bne_eq_false_iff_eq.2 euv) ⟨((k + 1 : Nat) : Int), wrap_i64 (by omega) (by omega), k + 1, ⟨⟨?_, rfl⟩, rfl, Store.le_refl _⟩, ⟨hkl, by rw [List.take_add_one, List.take_add_one, hu, hv, hks, euv]⟩, by show cx.2.2.1.length - (k + 1) < cx.2.2.1.length - k; omega⟩
                repeat' first | exact trivial | exact rfl | refine And.intro ?_ ?_
              · exact onE (bne_iff_ne.2 euv) ⟨rfl, false, rfl, nosame hx hy fun q => euv (by rw [q.2] at hu; exact Option.some.inj (hu.symm.trans hv))⟩
            have hnums : cx.2.2.1 = cy.2.2.1 := by
              have hkl : k = cx.2.2.1.length := by
                have h : ¬ ((k : Nat) : Int) < ((xnn : Nat) : Int) := of_decide_eq_false h
                have := hcx.nn; omega
              have := hcx.nn; have := hcy.nn
              rw [hkl, List.take_length, List.take_of_length_le (by omega)] at hks
              exact hks
            first
             | refine ⟨[], [], Nat, List.range' 82 18, fun k => [(11, rI k)], fun _ => [.box [.v (.int .i64 xl), .v (.int .i64 xo), .v (.slice xnp xnn xnc), .v (.slice xwp xwn xwc)], .box [.v (.int .i64 yl), .v (.int .i64 yo), .v (.slice ynp ynn ync), .v (.slice ywp ywn ywc)]], fun _ => S, fun k => k ≤ (cx.2.2.2).length ∧ (cx.2.2.2).take k = (cy.2.2.2).take k, fun k => (cx.2.2.2).length - k, And.intro (Exists.intro 0 (And.intro (And.intro (And.intro ?_ rfl) (And.intro rfl (Store.le_refl _))) ⟨Nat.zero_le _, rfl⟩)) ?_⟩
             | refine ⟨[], [], Nat, List.range' 82 18, fun k => [(11, rI k)], fun _ => [.box [.v (.int .i64 yl), .v (.int .i64 yo), .v (.slice ynp ynn ync), .v (.slice ywp ywn ywc)], .box [.v (.int .i64 xl), .v (.int .i64 xo), .v (.slice xnp xnn xnc), .v (.slice xwp xwn xwc)]], fun _ => S, fun k => k ≤ (cx.2.2.2).length ∧ (cx.2.2.2).take k = (cy.2.2.2).take k, fun k => (cx.2.2.2).length - k, And.intro (Exists.intro 0 (And.intro (And.intro (And.intro ?_ rfl) (And.intro rfl (Store.le_refl _))) ⟨Nat.zero_le _, rfl⟩)) ?_⟩
            · repeat' first | exact trivial | exact rfl | refine And.intro ?_ ?_
            rintro k2 ⟨hk2, hks2⟩
            have hk2 : k2 ≤ cx.2.2.2.length := hk2
            have k0 : (0 : Int) ≤ ((k2 : Nat) : Int) := Int.natCast_nonneg _
            refine And.intro (fun h => ?_) (fun h => ?_)
            · have hkl : k2 < cx.2.2.2.length := by
                have h : ((k2 : Nat) : Int) < ((xwn : Nat) : Int) := of_decide_eq_true h
                have := hcx.wn; omega
              obtain ⟨u, hu⟩ : ∃ u, cx.2.2.2[k2]? = some u := ⟨_, List.getElem?_eq_getElem hkl⟩
              obtain ⟨v, hv⟩ : ∃ v, cy.2.2.2[k2]? = some v := ⟨_, List.getElem?_eq_getElem (by have := hcx.wn; have := hcy.wn; omega)⟩
              obtain ⟨b1, o1, hp1, -, hd1⟩ := row_at hcx.wr (i := k2) (x := bs u) (by rw [List.getElem?_map, hu]; rfl)
              obtain ⟨b2, o2, hp2, -, hd2⟩ := row_at hcy.wr (i := k2) (x := bs v) (by rw [List.getElem?_map, hv]; rfl)
              refine ⟨or10_17, [], oF10_17, by kernel_rfl, k0, by show ((k2 : Nat) : Int) < ((xwn : Nat) : Int); have := hcx.wn; omega, b1, o1, hp1, bs u, trivial, hd1, k0, by show ((k2 : Nat) : Int) < ((ywn : Nat) : Int); have := hcx.wn; omega, b2, o2, hp2, bs v, trivial, hd2, ?_⟩
              by_cases euv : u = v
              · refine offE (ntT (isE euv)) ⟨((k2 + 1 : Nat) : Int), wrap_i64 (by omega) (by omega), k2 + 1, ⟨⟨?_, rfl⟩, rfl, Store.le_refl _⟩, ⟨hkl, by rw [List.take_add_one, List.take_add_one, hu, hv, hks2, euv]⟩, by show cx.2.2.2.length - (k2 + 1) < cx.2.2.2.length - k2; omega⟩
                repeat' first | exact trivial | exact rfl | refine And.intro ?_ ?_
              · exact onE (ntF (isN euv)) ⟨rfl, false, rfl, nosame hx hy fun q => euv (by rw [q.2] at hu; exact Option.some.inj (hu.symm.trans hv))⟩
            have hwords : cx.2.2.2 = cy.2.2.2 := by
              have hkl : k2 = cx.2.2.2.length := by
                have h : ¬ ((k2 : Nat) : Int) < ((xwn : Nat) : Int) := of_decide_eq_false h
                have := hcx.wn; omega
              have := hcx.wn; have := hcy.wn
              rw [hkl, List.take_length, List.take_of_length_le (by omega)] at hks2
              exact hks2
            have heq : eqC true cx cy := ⟨(fun _ => elx el), by rw [show cx.2 = (cx.2.1, cx.2.2.1, cx.2.2.2) from rfl, hnums, hwords, ← hcx.op', eo, hcy.op']⟩
            refine ⟨((i + 1 : Nat) : Int), wrap_i64 (by omega) (by omega), i + 1, ⟨⟨?_, rfl⟩, rfl, Store.le_refl _⟩, ⟨hil, fun j u v hj hu hv => ?_⟩, by show L.length - (i + 1) < L.length - i; omega⟩
            · repeat' first | exact trivial | exact rfl | refine And.intro ?_ ?_
            · rcases Nat.lt_or_ge j i with hji | hji
              · exact hall j u v hji hu hv
              · obtain rfl : j = i := by omega
                rw [hx] at hu; rw [hy] at hv
                obtain rfl := Option.some.inj hu; obtain rfl := Option.some.inj hv
                exact heq
          · exact onE (bne_iff_ne.2 el) (onT (onT (onT ⟨rfl, false, rfl, nosame hx hy fun q => el (by rw [hcx.line', hcy.line']; exact q.1 rfl)⟩)))
        | false =>
          refine onF (onF ?_)
          by_cases eo : xo = yo
          rotate_left
          · exact onE (bne_iff_ne.2 eo) (onT (onT ⟨rfl, false, rfl, nosame hx hy fun q => eo (by rw [hcx.op', hcy.op', q.2])⟩))
          refine offE (bne_eq_false_iff_eq.2 eo) ?_
          by_cases en : xnn = ynn
          rotate_left
          · exact onE (bne_iff_ne.2 (show ¬ ((xnn : Nat) : Int) = ((ynn : Nat) : Int) by omega)) (onT ⟨rfl, false, rfl, nosame hx hy fun q => en (by rw [hcx.nn, hcy.nn, q.2])⟩)
          refine offE (bne_eq_false_iff_eq.2 (show ((xnn : Nat) : Int) = ((ynn : Nat) : Int) by omega)) ?_
          by_cases ew : xwn = ywn
          rotate_left
          · exact onE (bne_iff_ne.2 (show ¬ ((xwn : Nat) : Int) = ((ywn : Nat) : Int) by omega)) ⟨rfl, false, rfl, nosame hx hy fun q => ew (by rw [hcx.wn, hcy.wn, q.2])⟩
          refine offE (bne_eq_false_iff_eq.2 (show ((xwn : Nat) : Int) = ((ywn : Nat) : Int) by omega)) ?_
          first
           | refine ⟨[], [], Nat, List.range' 64 36, fun k => [(10, rI k)], fun _ => [.box [.v (.int .i64 xl), .v (.int .i64 xo), .v (.slice xnp xnn xnc), .v (.slice xwp xwn xwc)], .box [.v (.int .i64 yl), .v (.int .i64 yo), .v (.slice ynp ynn ync), .v (.slice ywp ywn ywc)]], fun _ => S, fun k => k ≤ (cx.2.2.1).length ∧ (cx.2.2.1).take k = (cy.2.2.1).take k, fun k => (cx.2.2.1).length - k, And.intro (Exists.intro 0 (And.intro (And.intro (And.intro ?_ rfl) (And.intro rfl (Store.le_refl _))) ⟨Nat.zero_le _, rfl⟩)) ?_⟩
           | refine ⟨[], [], Nat, List.range' 64 36, fun k => [(10, rI k)], fun _ => [.box [.v (.int .i64 yl), .v (.int .i64 yo), .v (.slice ynp ynn ync), .v (.slice ywp ywn ywc)], .box [.v (.int .i64 xl), .v (.int .i64 xo), .v (.slice xnp xnn xnc), .v (.slice xwp xwn xwc)]], fun _ => S, fun k => k ≤ (cx.2.2.1).length ∧ (cx.2.2.1).take k = (cy.2.2.1).take k, fun k => (cx.2.2.1).length - k, And.intro (Exists.intro 0 (And.intro (And.intro (And.intro ?_ rfl) (And.intro rfl (Store.le_refl _))) ⟨Nat.zero_le _, rfl⟩)) ?_⟩
          · repeat' first | exact trivial | exact rfl | refine And.intro ?_ ?_
          rintro k ⟨hk, hks⟩
          have hk : k ≤ cx.2.2.1.length := hk
          have k0 : (0 : Int) ≤ ((k : Nat) : Int) := Int.natCast_nonneg _
          refine And.intro (fun h => ?_) (fun h => ?_)
          · have hkl : k < cx.2.2.1.length := by
              have h : ((k : Nat) : Int) < ((xnn : Nat) : Int) := of_decide_eq_true h
              have := hcx.nn; omega
            obtain ⟨u, hu⟩ : ∃ u, cx.2.2.1[k]? = some u := ⟨_, List.getElem?_eq_getElem hkl⟩
            obtain ⟨v, hv⟩ : ∃ v, cy.2.2.1[k]? = some v := ⟨_, List.getElem?_eq_getElem (by have := hcx.nn; have := hcy.nn; omega)⟩
            obtain ⟨b1, o1, hp1, -, hd1⟩ := row_at hcx.nr hu
            obtain ⟨b2, o2, hp2, -, hd2⟩ := row_at hcy.nr hv
            refine ⟨or10_12, [], oF10_12, by kernel_rfl, k0, by show ((k : Nat) : Int) < ((xnn : Nat) : Int); have := hcx.nn; omega, b1, o1, hp1, u, trivial, hd1, k0, by show ((k : Nat) : Int) < ((ynn : Nat) : Int); have := hcx.nn; omega, b2, o2, hp2, v, trivial, hd2, ?_⟩
            by_cases euv : u = v
            · refine offE (bne_eq_false_iff_eq.2 euv) ⟨((k + 1 : Nat) : Int), wrap_i64 (by omega) (by omega), k + 1, ⟨⟨?_, rfl⟩, rfl, Store.le_refl _⟩, ⟨hkl, by rw [List.take_add_one, List.take_add_one, hu, hv, hks, euv]⟩, by show cx.2.2.1.length - (k + 1) < cx.2.2.1.length - k; omega⟩
              repeat' first | exact trivial | exact rfl | refine And.intro ?_ ?_
            · exact onE (bne_iff_ne.2 euv) ⟨rfl, false, rfl, nosame hx hy fun q => euv (by rw [q.2] at hu; exact Option.some.inj (hu.symm.trans hv))⟩
          have hnums : cx.2.2.1 = cy.2.2.1 := by
            have hkl : k = cx.2.2.1.length := by
              have h : ¬ ((k : Nat) : Int) < ((xnn : Nat) : Int) := of_decide_eq_false h
              have := hcx.nn; omega
            have := hcx.nn; have := hcy.nn
            rw [hkl, List.take_length, List.take_of_length_le (by omega)] at hks
            exact hks
          first
           | refine ⟨[], [], Nat, List.range' 82 18, fun k => [(11, rI k)], fun _ => [.box [.v (.int .i64 xl), .v (.int .i64 xo), .v (.slice xnp xnn xnc), .v (.slice xwp xwn xwc)], .box [.v (.int .i64 yl), .v (.int .i64 yo), .v (.slice ynp ynn ync), .v (.slice ywp ywn ywc)]], fun _ => S, fun k => k ≤ (cx.2.2.2).length ∧ (cx.2.2.2).take k = (cy.2.2.2).take k, fun k => (cx.2.2.2).length - k, And.intro (Exists.intro 0 (And.intro (And.intro (And.intro ?_ rfl) (And.intro rfl (Store.le_refl _))) ⟨Nat.zero_le _, rfl⟩)) ?_⟩
           | refine ⟨[], [], Nat, List.range' 82 18, fun k => [(11, rI k)], fun _ => [.box [.v (.int .i64 yl), .v (.int .i64 yo), .v (.slice ynp ynn ync), .v (.slice ywp ywn ywc)], .box [.v (.int .i64 xl), .v (.int .i64 xo), .v (.slice xnp xnn xnc), .v (.slice xwp xwn xwc)]], fun _ => S, fun k => k ≤ (cx.2.2.2).length ∧ (cx.2.2.2).take k = (cy.2.2.2).take k, fun k => (cx.2.2.2).length - k, And.intro (Exists.intro 0 (And.intro (And.intro (And.intro ?_ rfl) (And.intro rfl (Store.le_refl _))) ⟨Nat.zero_le _, rfl⟩)) ?_⟩
          · repeat' first | exact trivial | exact rfl | refine And.intro ?_ ?_
          rintro k2 ⟨hk2, hks2⟩
          have hk2 : k2 ≤ cx.2.2.2.length := hk2
          have k0 : (0 : Int) ≤ ((k2 : Nat) : Int) := Int.natCast_nonneg _
          refine And.intro (fun h => ?_) (fun h => ?_)
          · have hkl : k2 < cx.2.2.2.length := by
              have h : ((k2 : Nat) : Int) < ((xwn : Nat) : Int) := of_decide_eq_true h
              have := hcx.wn; omega
            obtain ⟨u, hu⟩ : ∃ u, cx.2.2.2[k2]? = some u := ⟨_, List.getElem?_eq_getElem hkl⟩
            obtain ⟨v, hv⟩ : ∃ v, cy.2.2.2[k2]? = some v := ⟨_, List.getElem?_eq_getElem (by have := hcx.wn; have := hcy.wn; omega)⟩
            obtain ⟨b1, o1, hp1, -, hd1⟩ := row_at hcx.wr (i := k2) (x := bs u) (by rw [List.getElem?_map, hu]; rfl)
            obtain ⟨b2, o2, hp2, -, hd2⟩ := row_at hcy.wr (i := k2) (x := bs v) (by rw [List.getElem?_map, hv]; rfl)
            refine ⟨or10_17, [], oF10_17, by kernel_rfl, k0, by show ((k2 : Nat) : Int) < ((xwn : Nat) : Int); have := hcx.wn; omega, b1, o1, hp1, bs u, trivial, hd1, k0, by show ((k2 : Nat) : Int) < ((ywn : Nat) : Int); have := hcx.wn; omega, b2, o2, hp2, bs v, trivial, hd2, ?_⟩
            by_cases euv : u = v
            · refine offE (ntT (isE euv)) ⟨((k2 + 1 : Nat) : Int), wrap_i64 (by omega) (by omega), k2 + 1, ⟨⟨?_, rfl⟩, rfl, Store.le_refl _⟩, ⟨hkl, by rw [List.take_add_one, List.take_add_one, hu, hv, hks2, euv]⟩, by show cx.2.2.2.length - (k2 + 1) < cx.2.2.2.length - k2; omega⟩
              repeat' first | exact trivial | exact rfl | refine And.intro ?_ ?_
            · exact onE (ntF (isN euv)) ⟨rfl, false, rfl, nosame hx hy fun q => euv (by rw [q.2] at hu; exact Option.some.inj (hu.symm.trans hv))⟩
          have hwords : cx.2.2.2 = cy.2.2.2 := by
            have hkl : k2 = cx.2.2.2.length := by
              have h : ¬ ((k2 : Nat) : Int) < ((xwn : Nat) : Int) := of_decide_eq_false h
              have := hcx.wn; omega
            have := hcx.wn; have := hcy.wn
            rw [hkl, List.take_length, List.take_of_length_le (by omega)] at hks2
            exact hks2
          have heq : eqC false cx cy := ⟨(fun q => nomatch q), by rw [show cx.2 = (cx.2.1, cx.2.2.1, cx.2.2.2) from rfl, hnums, hwords, ← hcx.op', eo, hcy.op']⟩
          refine ⟨((i + 1 : Nat) : Int), wrap_i64 (by omega) (by omega), i + 1, ⟨⟨?_, rfl⟩, rfl, Store.le_refl _⟩, ⟨hil, fun j u v hj hu hv => ?_⟩, by show L.length - (i + 1) < L.length - i; omega⟩
          · repeat' first | exact trivial | exact rfl | refine And.intro ?_ ?_
          · rcases Nat.lt_or_ge j i with hji | hji
            · exact hall j u v hji hu hv
            · obtain rfl : j = i := by omega
              rw [hx] at hu; rw [hy] at hv
              obtain rfl := Option.some.inj hu; obtain rfl := Option.some.inj hv
              exact heq
    · have hil : i = L.length := by
        have : ¬ ((i : Nat) : Int) < ((L.length : Nat) : Int) := of_decide_eq_false h
        omega
      subst hil
      refine ⟨rfl, true, rfl, fun _ => ⟨by rw [List.length_map, List.length_map]; exact hlen, fun j u v hu hv => ?_⟩, fun _ => rfl⟩
      rw [List.getElem?_map, Option.map_eq_some_iff] at hu hv
      obtain ⟨x, hx, rfl⟩ := hu
      obtain ⟨y, hy, rfl⟩ := hv
      exact hall j x y (List.getElem?_eq_some_iff.1 hx).1 hx hy
  · refine onE (bne_iff_ne.2 (show ¬ ((L.length : Nat) : Int) = ((M.length : Nat) : Int) by omega)) ⟨rfl, false, rfl, (fun q => by cases q), fun q => ?_⟩
    have := q.1
    rw [List.length_map, List.length_map] at this
    exact absurd this hlen
end Go.Proofs.YtikpdgjdeikinaaGreatDoor
