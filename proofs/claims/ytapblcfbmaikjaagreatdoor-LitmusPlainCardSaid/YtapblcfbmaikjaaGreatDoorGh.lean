/- law09: short, stronger; law Stronger. -/
import Derived.Test.YtapblcfbmaikjaaGreatDoorGf
namespace Go.Proofs.YtapblcfbmaikjaaGreatDoor
open Go Go.Vc Go.Sort Go.RowKit Go.Maps
set_option maxRecDepth 100000
set_option maxHeartbeats 8000000

def Short (first : List Li.Wd) (T : List (List Li.Act)) : Prop := first.length ≤ 8 ∧ T.length ≤ 8 ∧ ∀ l ∈ T, l.length ≤ 8
theorem short_spec (S : Store) (x : Tz) (first : List Li.Wd) (T : List (List Li.Act)) (hx : TestIs S x first T) : Pure Tryz.prog 10 S [vT x] (A := Bool) rB (fun _ b => b = true → Short first T) := by
  have hfl := hx.f.len
  have htl := hx.t.len
  have hth := hx.t
  obtain ⟨⟨fp, fn, fc⟩, ⟨p, n, c⟩⟩ := x
  have hfl : fn = first.length := hfl
  have htl : n = T.length := htl
  subst hfl htl
  refine pure_vc agrees Tryz.func10 rfl rfl (fun S S' q hle h => h) ?_
  refine ⟨[], [], Nat, List.range' 4 18, fun i => [(3, rI i)], fun _ => [.box [.v (.slice fp first.length fc), .v (.slice p T.length c)]], fun _ => S, fun i => (i ≤ T.length ∧ i ≤ 8) ∧ ∀ l ∈ T.take i, l.length ≤ 8, fun i => T.length - i, ?_⟩
  refine And.intro (Exists.intro 0 (And.intro (And.intro (And.intro ?_ rfl) (And.intro rfl (Store.le_refl _))) ⟨⟨Nat.zero_le _, Nat.zero_le _⟩, fun l hl => by simp at hl⟩)) ?_
  · repeat' first | exact trivial | exact rfl | refine And.intro ?_ ?_
  rintro i ⟨⟨hi, hi8⟩, hz⟩
  have fin : (T.length ≤ 8 → ∀ l ∈ T, l.length ≤ 8) → ∀ b : Bool, (b = true → T.length ≤ 8 ∧ first.length ≤ 8) → b = true → Short first T := fun h b hb q => ⟨(hb q).2, (hb q).1, h (hb q).1⟩
  refine And.intro (fun h1 => ?_) (fun h1 => ?_)
  · have h1 : (i : Int) < ((T.length : Nat) : Int) := of_decide_eq_true h1
    refine And.intro (fun h2 => ?_) (fun h2 => ?_)
    · have h2 : (i : Int) < 8 := of_decide_eq_true h2
      obtain ⟨⟨qp, qn, qc⟩, y, b, o, hy, hqy, hp, hok, hrd⟩ := hth.at (i := i) (by omega)
      have hql : qn = y.length := hqy.len
      subst hql
      refine ⟨Int.natCast_nonneg _, h1, b, o, hp, ((qp, y.length, qc) : Hd), hok, hrd, ?_⟩
      by_cases h3 : ((y.length : Nat) : Int) > 8
      · refine onE (decide_eq_true h3) ⟨rfl, false, rfl, fun q => by cases q⟩
      · refine offE (decide_eq_false h3) ?_
        refine ⟨((i + 1 : Nat) : Int), wrap_i64 (by omega) (by omega), i + 1, ⟨⟨?_, rfl⟩, rfl, Store.le_refl _⟩, ⟨⟨by omega, by omega⟩, take_more hy hz (by omega)⟩, by show T.length - (i + 1) < T.length - i; omega⟩
        repeat' first | exact trivial | exact rfl | refine And.intro ?_ ?_
    · have h2 : ¬ (i : Int) < 8 := of_decide_eq_false h2
      have hall : T.length ≤ 8 → ∀ l ∈ T, l.length ≤ 8 := fun h => by omega
      refine And.intro (fun h4 => ?_) (fun h4 => ?_)
      · have h4 : ((T.length : Nat) : Int) ≤ 8 := of_decide_eq_true h4
        exact ⟨rfl, _, rfl, fin hall _ fun q => ⟨by omega, by have : ((first.length : Nat) : Int) ≤ 8 := of_decide_eq_true q; omega⟩⟩
      · exact ⟨rfl, false, rfl, fun q => by cases q⟩
  · have h1 : ¬ (i : Int) < ((T.length : Nat) : Int) := of_decide_eq_false h1
    have hil : i = T.length := by omega
    subst hil
    rw [List.take_length] at hz
    refine onF ?_
    refine And.intro (fun h4 => ?_) (fun h4 => ?_)
    · have h4 : ((T.length : Nat) : Int) ≤ 8 := of_decide_eq_true h4
      exact ⟨rfl, _, rfl, fin (fun _ => hz) _ fun q => ⟨by omega, by have : ((first.length : Nat) : Int) ≤ 8 := of_decide_eq_true q; omega⟩⟩
    · exact ⟨rfl, false, rfl, fun q => by cases q⟩
theorem strop_spec (S : Store) (op : Int) (look : Bool) : Pure Tryz.prog 12 S [.int .i64 op, .bool look] (A := Unit) (fun _ => rI (Li.strongOp op look)) (fun _ _ => True) := by
  refine pure_vc agrees Tryz.func12 rfl rfl (fun S S' q hle h => h) ?_
  unfold Li.strongOp
  by_cases h1 : op = 1
  · refine onE (beq_iff_eq.2 h1) ?_
    cases look with
    | false =>
      refine onT ⟨rfl, (), ?_, trivial⟩
      rw [if_pos ⟨h1, rfl⟩]; rfl
    | true =>
      refine onF (onE (beq_iff_eq.2 h1) ?_)
      repeat refine onT ?_
      refine ⟨rfl, (), ?_, trivial⟩
      rw [if_neg (fun q => by cases q.2), if_pos (.inl h1)]; rfl
  · refine offE (beq_eq_false_iff_ne.2 h1) ?_
    repeat refine onF ?_
    refine offE (beq_eq_false_iff_ne.2 h1) ?_
    by_cases h2 : op = 2
    · refine onE (beq_iff_eq.2 h2) ?_
      repeat refine onT ?_
      refine ⟨rfl, (), ?_, trivial⟩
      rw [if_neg (fun q => h1 q.1), if_pos (.inr h2)]; rfl
    · refine offE (beq_eq_false_iff_ne.2 h2) ?_
      by_cases h3 : op = 3
      · refine onE (beq_iff_eq.2 h3) ⟨rfl, (), ?_, trivial⟩
        rw [if_neg (fun q => h1 q.1), if_neg (by omega), if_pos h3]; rfl
      · refine offE (beq_eq_false_iff_ne.2 h3) ⟨rfl, (), ?_, trivial⟩
        rw [if_neg (fun q => h1 q.1), if_neg (by omega), if_neg h3]; rfl
theorem strongT_at (look : Bool) : ∀ (T : List (List Li.Act)) (k : Int) (i : Nat), (Li.strongT look k T)[i]? = (T[i]?).map fun l => Li.strongL look (k - sizeN T i) l
  | [], _, i => by simp [Li.strongT]
  | l :: T, k, 0 => by
    show (Li.strongL look k l :: _)[0]? = _
    have : sizeN (l :: T) 0 = 0 := rfl
    rw [this]; simp
  | l :: T, k, i + 1 => by
    show (Li.strongL look k l :: Li.strongT look (k - l.length) T)[i + 1]? = _
    rw [List.getElem?_cons_succ, strongT_at look T, List.getElem?_cons_succ]
    have : sizeN (l :: T) (i + 1) = l.length + sizeN T i := by unfold sizeN; simp
    rw [this]
    congr 1
    funext l'
    congr 1
    omega
theorem set_modify {look : Bool} {l : List Li.Act} {k : Nat} {a : Li.Act} (h : l[k]? = some a) : (l.map axOf).set k (axOf (Li.strongA look a)) = (l.modify k (Li.strongA look)).map axOf := by
  apply List.ext_getElem?
  intro j
  rw [List.getElem?_set, List.getElem?_map, List.getElem?_map, List.getElem?_modify]
  by_cases hj : k = j
  · subst hj
    rw [if_pos rfl, h, List.length_map, if_pos (List.getElem?_eq_some_iff.1 h).1]; simp
  · rw [if_neg hj]
    cases l[j]? with
    | none => rfl
    | some b => simp [hj]
theorem law_stronger (S : Store) (hLt : Lt S) (x : Tz) (first : List Li.Wd) (T : List (List Li.Act)) (hx : TestIs S x first T) (wh : Int) (hwh : 0 ≤ wh ∧ wh ≤ 255) (look : Bool) : Pure Tryz.prog 3 S [vT x, .int .u8 wh, .bool look] (A := Unit) (fun _ => rB true) (fun _ _ => True) := by
  have hsh := fun (S' : Store) (hS : S.le S') => short_spec S' x first T (hx.le hS)
  have hck := fun (S' : Store) (hS : S.le S') => ocheck_spec S' x first T (hx.le hS)
  have hal := fun (S' : Store) (hS : S.le S') => oall_good S' (hLt.le hS) x first T (hx.le hS)
  have hfl := hx.f.len
  have htl := hx.t.len
  have hth := hx.t
  have hfi := hx.f
  obtain ⟨⟨fp, fn, fc⟩, ⟨p, n, c⟩⟩ := x
  have hfl : fn = first.length := hfl
  have htl : n = T.length := htl
  subst hfl htl
  refine pure_vc agrees Tryz.func3 rfl rfl (fun S S' q hle h => h) ?_
  refine ⟨⟨_, rfl, rfl, rfl⟩, .inl ⟨_, _, _, awake_spec S hLt, fun S1 _ hS1 _ => onF ?_⟩⟩
  refine ⟨⟨_, rfl, rfl, rfl⟩, .inl ⟨_, _, _, hsh S1 hS1, fun S2 sb hS2 hsb => ?_⟩⟩
  have hS02 := Store.le_trans hS1 hS2
  cases sb with
  | false => exact onT (onT ⟨rfl, (), rfl, trivial⟩)
  | true =>
  obtain ⟨s1, s2, s3⟩ := hsb rfl
  refine onF ⟨⟨_, rfl, rfl, rfl⟩, .inl ⟨_, _, _, hck S2 hS02 s1 s2 s3, fun S3 _ hS3 _ => ?_⟩⟩
  have hS03 := Store.le_trans hS02 hS3
  by_cases h0 : Li.checkT first T = 0
  · refine offE (bne_eq_false_iff_eq.2 h0) ?_
    have hg := Li.check_good.1 h0
    refine ⟨[], [], Nat, List.range' 28 15, fun i => [(7, rI (sizeN T i : Nat)), (8, rI i)], fun _ => [.box [.v (.slice fp first.length fc), .v (.slice p T.length c)]], fun _ => S3, fun i => i ≤ T.length, fun i => T.length - i, ?_⟩
    refine And.intro (Exists.intro 0 (And.intro (And.intro (And.intro ?_ rfl) (And.intro rfl (Store.le_refl _))) (Nat.zero_le _))) ?_
    · repeat' first | exact trivial | exact rfl | refine And.intro ?_ ?_
    intro i hi
    have hi : i ≤ T.length := hi
    refine And.intro (fun h1 => ?_) (fun h1 => ?_)
    · have h1 : (i : Int) < ((T.length : Nat) : Int) := of_decide_eq_true h1
      obtain ⟨⟨qp, qn, qc⟩, y, b, o, hy, hqy, hp, hok, hrd⟩ := (hth.le hS03).at (i := i) (by omega)
      have hql : qn = y.length := hqy.len
      subst hql
      have hs := sizeN_succ hy
      have hb1 := sizeN_le T (i + 1) s3 s2
      have wz : IntKind.i64.wrap (((sizeN T i : Nat) : Int) + ((y.length : Nat) : Int)) = ((sizeN T (i + 1) : Nat) : Int) := by rw [wrap_i64 (by omega) (by omega)]; omega
      refine ⟨Int.natCast_nonneg _, h1, b, o, hp, ((qp, y.length, qc) : Hd), hok, hrd, ((sizeN T (i + 1) : Nat) : Int), wz, ?_⟩
      refine ⟨((i + 1 : Nat) : Int), wrap_i64 (by omega) (by omega), i + 1, ⟨⟨?_, rfl⟩, rfl, Store.le_refl _⟩, by show i + 1 ≤ _; omega, by show T.length - (i + 1) < T.length - i; omega⟩
      repeat' first | exact trivial | exact rfl | refine And.intro ?_ ?_
    have h1 : ¬ (i : Int) < ((T.length : Nat) : Int) := of_decide_eq_false h1
    have hil : i = T.length := by omega
    subst hil
    have hN := sizeN_le T T.length s3 s2
    by_cases hz : sizeN T T.length = 0
    · refine onE (beq_iff_eq.2 (show ((sizeN T T.length : Nat) : Int) = 0 by omega)) ⟨rfl, (), rfl, trivial⟩
    refine offE (beq_eq_false_iff_ne.2 (show ¬ ((sizeN T T.length : Nat) : Int) = 0 by omega)) ?_
    obtain ⟨k0, hk0⟩ : ∃ k0, k0 = Int.tmod wh ((sizeN T T.length : Nat) : Int) := ⟨_, rfl⟩
    have hk1 : 0 ≤ k0 ∧ k0 ≤ 255 := by
      rw [hk0, Int.tmod_eq_emod_of_nonneg hwh.1]
      have := Int.emod_nonneg wh (show ((sizeN T T.length : Nat) : Int) ≠ 0 by omega)
      have := Int.emod_lt_of_pos wh (show 0 < ((sizeN T T.length : Nat) : Int) by omega)
      omega
    refine ⟨wh, wrap_i64 (by omega) (by omega), by omega, k0, hk0.symm, ?_⟩
    obtain ⟨U, hU⟩ : ∃ U, U = Li.strongT look k0 T := ⟨_, rfl⟩
    have hUl : U.length = T.length := by rw [hU]; exact Li.strongT_len look T k0
    have hUat : ∀ i, U[i]? = (T[i]?).map fun l => Li.strongL look (k0 - sizeN T i) l := fun i => by rw [hU]; exact strongT_at look T k0 i
    have hgU : Li.Good first U := by rw [hU]; exact Li.strong_good hg look k0
    refine ⟨[], [(301001, .slice, 30)], Nat × Int × List (Hd × List Li.Act) × Store, [12] ++ List.range' 52 43, fun z => [(9, rI z.2.1), (11, rI z.1)], fun z => [.box [.v (.slice fp first.length fc), .v (.slice p T.length c)], .box [.v (.slice fp first.length fc), .ref 2], .row .slice 30 (List.map Prod.fst z.2.2.1)], fun z => z.2.2.2,
      fun z => z.1 ≤ T.length ∧ z.2.1 = k0 - ((sizeN T z.1 : Nat) : Int) ∧ S3.le z.2.2.2 ∧ List.map Prod.snd z.2.2.1 = U.take z.1 ∧ ∀ y ∈ z.2.2.1, ActsIs z.2.2.2 y.1 y.2, fun z => T.length - z.1, ?_⟩
    refine And.intro (Exists.intro (0, k0, [], S3) (And.intro (And.intro (And.intro ?_ rfl) (And.intro rfl (Store.le_refl _))) ⟨Nat.zero_le _, ?_, Store.le_refl _, rfl, fun y hy => by cases hy⟩)) ?_
    · repeat' first | exact trivial | exact rfl | refine And.intro ?_ ?_
    · have : sizeN T 0 = 0 := rfl
      show k0 = k0 - ((sizeN T 0 : Nat) : Int)
      rw [this]; simp
    rintro ⟨i, k, L, Sz⟩ ⟨hi, hk, hSz, hL, hK⟩
    simp only at hi hk hSz hL hK
    refine And.intro (fun h2 => ?_) (fun h2 => ?_)
    · have h2 : (i : Int) < ((T.length : Nat) : Int) := of_decide_eq_true h2
      have hS0z := Store.le_trans hS03 hSz
      obtain ⟨⟨qp, qn, qc⟩, y, b, o, hy, hqy, hp, hok, hrd⟩ := (hth.le hS0z).at (i := i) (by omega)
      obtain ⟨hql, hqc, hqr, hqo⟩ := acts_row hqy
      have hql : qn = y.length := hql
      subst hql
      have hy8 := s3 y (List.mem_of_getElem? hy)
      have hs := sizeN_succ hy
      have hb1 := sizeN_le T (i + 1) s3 s2
      have hUi : U[i]? = some (Li.strongL look k y) := by rw [hUat, hy, hk]; rfl
      have hLl : L.length = i := by
        have := congrArg List.length hL
        rw [List.length_map, List.length_take] at this; omega
      have hxl : (List.map Prod.fst L).length = i := by rw [List.length_map, hLl]
      have okx : ∀ z ∈ y.map axOf, shA.ok z := fun _ _ => ⟨trivial, trivial, ⟨trivial, trivial, trivial⟩, trivial, trivial, trivial⟩
      have hyl : ([] ++ y.map axOf : List Ax).length = y.length := by rw [List.nil_append, List.length_map]
      have wk2 : IntKind.i64.wrap (k - ((y.length : Nat) : Int)) = k0 - ((sizeN T (i + 1) : Nat) : Int) := by rw [wrap_i64 (by omega) (by omega)]; omega
      have okS : ∀ a ∈ Li.strongL look k y, okAct a := fun a ha => by
        have hU2 : ∀ a ∈ y, okAct (Li.strongA look a) := fun a ha => by
          obtain ⟨k1, k2, k3, k4⟩ := hqo a ha
          refine ⟨?_, k2, k3, k4⟩
          show inI64 (Li.strongOp a.op look)
          unfold Li.strongOp
          split
          · exact i_2
          split
          · exact i_5
          split
          · exact i_4
          · exact k1
        unfold Li.strongL at ha
        split at ha
        · obtain ⟨j, hj, e⟩ := List.getElem_of_mem ha
          rw [List.getElem_modify] at e
          split at e
          · rw [← e]; exact hU2 _ (List.getElem_mem _)
          · rw [← e]; exact hqo _ (List.getElem_mem _)
        · exact hqo a ha
      have fin : ∀ (S5 : Store) (p5 : Option Addr) (c5 : Nat) (R : List Ax), R = (Li.strongL look k y).map axOf → Sz.le S5 → RowRd S5 p5 shA R → PForm p5 R.length c5 → (i + 1 ≤ T.length ∧ S3.le S5 ∧ List.map Prod.snd (L ++ [(((p5, R.length, c5) : Hd), Li.strongL look k y)]) = U.take (i + 1) ∧ ∀ z ∈ L ++ [(((p5, R.length, c5) : Hd), Li.strongL look k y)], ActsIs S5 z.1 z.2) := fun S5 p5 c5 R hR h5 hr hpf => by
        subst hR
        refine ⟨by omega, Store.le_trans hSz h5, ?_, fun z hz => ?_⟩
        · rw [List.map_append, hL, List.take_add_one, hUi]; rfl
        · rcases List.mem_append.1 hz with hz | hz
          · exact (hK z hz).le h5
          · simp only [List.mem_singleton] at hz
            subst hz
            exact acts_of (List.length_map ..) (pform_le hpf) hr okS
      refine ⟨Int.natCast_nonneg _, h2, b, o, hp, ((qp, y.length, qc) : Hd), hok, hrd, ?_⟩
      refine ⟨y.map axOf, src_of (List.length_map ..).symm hqr, okx, by show (0 + (y.map axOf).length) * 48 ≤ 140737488355328; rw [List.length_map]; omega, ?_⟩
      by_cases g1 : k ≥ 0
      · refine onE (decide_eq_true g1) ?_
        by_cases g2 : k < ((([] ++ y.map axOf : List Ax).length : Nat) : Int)
        · refine onE (decide_eq_true g2) ?_
          have hkl := g2
          replace g2 : k < ((y.length : Nat) : Int) := by rw [← hyl]; exact g2
          obtain ⟨a, ha⟩ : ∃ a, y[k.toNat]? = some a := ⟨_, List.getElem?_eq_getElem (by omega)⟩
          have hget : ([] ++ y.map axOf : List Ax)[k.toNat]? = some (axOf a) := by rw [List.nil_append, List.getElem?_map, ha]; rfl
          have hR : ([] ++ y.map axOf : List Ax).set k.toNat (axOf (Li.strongA look a)) = (Li.strongL look k y).map axOf := by
            rw [List.nil_append, set_modify ha]
            unfold Li.strongL; rw [if_pos ⟨g1, g2⟩]
          have hRl : (([] ++ y.map axOf : List Ax).set k.toNat (axOf (Li.strongA look a))).length = y.length := by rw [List.length_set, hyl]
          have wk3 : IntKind.i64.wrap (k - (((([] ++ y.map axOf : List Ax).set k.toNat (axOf (Li.strongA look a))).length : Nat) : Int)) = k0 - ((sizeN T (i + 1) : Nat) : Int) := by rw [hRl]; exact wk2
          obtain ⟨ao, al, ⟨a1, a2, a3⟩, a4, a5, a6⟩ := a
          refine ⟨g1, hkl, _, hget, ⟨_, rfl, rfl, rfl⟩, .inl ⟨_, _, _, strop_spec Sz ao look, fun S4 _ hS4 _ => ?_⟩⟩
          refine ⟨g1, hkl, _, axOf (Li.strongA look ⟨ao, al, (a1, a2, a3), a4, a5, a6⟩), hget, ⟨trivial, trivial, ⟨trivial, trivial, trivial⟩, trivial, trivial, trivial⟩, rfl, by show 0 + 1 ≤ 8; decide, ?_⟩
          refine ⟨_, wk3, fun p5 c5 S5 hS5 hr5 hpf5 => ⟨[((p5, ((([] : List Ax) ++ y.map axOf).set k.toNat (axOf (Li.strongA look ⟨ao, al, (a1, a2, a3), a4, a5, a6⟩))).length, c5) : Hd)], ⟨rfl, rfl⟩, fun _ _ => trivial, by show ((List.map Prod.fst L).length + 1) * 24 ≤ 140737488355328; omega, ?_⟩⟩
          refine ⟨((i + 1 : Nat) : Int), wrap_i64 (by omega) (by omega), (i + 1, k0 - ((sizeN T (i + 1) : Nat) : Int), L ++ [(((p5, ((([] : List Ax) ++ y.map axOf).set k.toNat (axOf (Li.strongA look ⟨ao, al, (a1, a2, a3), a4, a5, a6⟩))).length, c5) : Hd), Li.strongL look k y)], S5), ⟨⟨?_, rfl⟩, ?_, Store.le_refl _⟩, ?_, by show T.length - (i + 1) < T.length - i; omega⟩
          · repeat' first | exact trivial | exact rfl | refine And.intro ?_ ?_
          · show _ = [Res.box _, Res.box _, Res.row .slice 30 (List.map Prod.fst (L ++ [(((p5, ((([] : List Ax) ++ y.map axOf).set k.toNat (axOf (Li.strongA look ⟨ao, al, (a1, a2, a3), a4, a5, a6⟩))).length, c5) : Hd), Li.strongL look k y)]))]
            rw [List.map_append]; rfl
          · have := fin S5 p5 c5 _ hR (Store.le_trans hS4 hS5) hr5 hpf5.1
            exact ⟨this.1, rfl, this.2⟩
        · refine offE (decide_eq_false g2) ?_
          replace g2 : ¬ k < ((y.length : Nat) : Int) := fun q => g2 (by rw [← hyl] at q; exact q)
          have hR : ([] ++ y.map axOf : List Ax) = (Li.strongL look k y).map axOf := by
            rw [List.nil_append]
            unfold Li.strongL; rw [if_neg (fun q => g2 q.2)]
          have wk3 : IntKind.i64.wrap (k - ((([] ++ y.map axOf : List Ax).length : Nat) : Int)) = k0 - ((sizeN T (i + 1) : Nat) : Int) := by rw [hyl]; exact wk2
          refine ⟨_, wk3, fun p5 c5 S5 hS5 hr5 hpf5 => ⟨[((p5, (([] : List Ax) ++ y.map axOf).length, c5) : Hd)], ⟨rfl, rfl⟩, fun _ _ => trivial, by show ((List.map Prod.fst L).length + 1) * 24 ≤ 140737488355328; omega, ?_⟩⟩
          refine ⟨((i + 1 : Nat) : Int), wrap_i64 (by omega) (by omega), (i + 1, k0 - ((sizeN T (i + 1) : Nat) : Int), L ++ [(((p5, (([] : List Ax) ++ y.map axOf).length, c5) : Hd), Li.strongL look k y)], S5), ⟨⟨?_, rfl⟩, ?_, Store.le_refl _⟩, ?_, by show T.length - (i + 1) < T.length - i; omega⟩
          · repeat' first | exact trivial | exact rfl | refine And.intro ?_ ?_
          · show _ = [Res.box _, Res.box _, Res.row .slice 30 (List.map Prod.fst (L ++ [(((p5, (([] : List Ax) ++ y.map axOf).length, c5) : Hd), Li.strongL look k y)]))]
            rw [List.map_append]; rfl
          · have := fin S5 p5 c5 _ hR hS5 hr5 hpf5.1
            exact ⟨this.1, rfl, this.2⟩
      · refine offE (decide_eq_false g1) ?_
        repeat refine onF ?_
        have hR : ([] ++ y.map axOf : List Ax) = (Li.strongL look k y).map axOf := by
          rw [List.nil_append]
          unfold Li.strongL; rw [if_neg (fun q => g1 q.1)]
        have wk3 : IntKind.i64.wrap (k - ((([] ++ y.map axOf : List Ax).length : Nat) : Int)) = k0 - ((sizeN T (i + 1) : Nat) : Int) := by rw [hyl]; exact wk2
        refine ⟨_, wk3, fun p5 c5 S5 hS5 hr5 hpf5 => ⟨[((p5, (([] : List Ax) ++ y.map axOf).length, c5) : Hd)], ⟨rfl, rfl⟩, fun _ _ => trivial, by show ((List.map Prod.fst L).length + 1) * 24 ≤ 140737488355328; omega, ?_⟩⟩
        refine ⟨((i + 1 : Nat) : Int), wrap_i64 (by omega) (by omega), (i + 1, k0 - ((sizeN T (i + 1) : Nat) : Int), L ++ [(((p5, (([] : List Ax) ++ y.map axOf).length, c5) : Hd), Li.strongL look k y)], S5), ⟨⟨?_, rfl⟩, ?_, Store.le_refl _⟩, ?_, by show T.length - (i + 1) < T.length - i; omega⟩
        · repeat' first | exact trivial | exact rfl | refine And.intro ?_ ?_
        · show _ = [Res.box _, Res.box _, Res.row .slice 30 (List.map Prod.fst (L ++ [(((p5, (([] : List Ax) ++ y.map axOf).length, c5) : Hd), Li.strongL look k y)]))]
          rw [List.map_append]; rfl
        · have := fin S5 p5 c5 _ hR hS5 hr5 hpf5.1
          exact ⟨this.1, rfl, this.2⟩
    · have h2 : ¬ (i : Int) < ((T.length : Nat) : Int) := of_decide_eq_false h2
      have hil : i = T.length := by omega
      subst hil
      rw [← hUl, List.take_length] at hL
      have hLl : (List.map Prod.fst L).length = U.length := by rw [List.length_map, ← hL, List.length_map]
      refine ⟨⟨_, rfl, rfl, rfl⟩, .inl ⟨_, _, _, hal Sz (Store.le_trans hS03 hSz) hg, fun S4 q1 hS4 hq1 => ?_⟩⟩
      refine ⟨⟨_, rfl, rfl, rfl⟩, .inl fun p5 c5 S5 hS5 hr5 hpf5 => ⟨_, _, _, oall_good S5 (hLt.le (Store.le_trans hS03 (Store.le_trans hSz (Store.le_trans hS4 hS5)))) ((fp, first.length, fc), (p5, (List.map Prod.fst L).length, c5)) first U ⟨hfi.le (Store.le_trans hS03 (Store.le_trans hSz (Store.le_trans hS4 hS5))), ⟨L, hL, by show (List.map Prod.fst L).length = L.length; rw [List.length_map], pform_le hpf5.1, hr5, fun z hz => (hK z hz).le (Store.le_trans hS4 hS5)⟩⟩ hgU, fun S6 q2 hS6 hq2 => ?_⟩⟩
      obtain ⟨A1, hA1⟩ : ∃ A1, A1 = Li.putAll [] (Li.allT first T) := ⟨_, rfl⟩
      obtain ⟨A2, hA2⟩ : ∃ A2, A2 = Li.putAll [] (Li.allT first U) := ⟨_, rfl⟩
      have hl1 : A1.length ≤ 1073741824 := by rw [hA1]; exact all_len hg
      have hl2 : A2.length ≤ 1073741824 := by rw [hA2]; exact all_len hgU
      have hsub : ∀ z ∈ A2, z ∈ A1 := fun z hz => by
        rw [hA2, Li.putAll_mem] at hz
        rw [hA1, Li.putAll_mem]
        rcases hz with hz | hz
        · exact .inl hz
        · refine .inr (Li.stronger hg look k0 z ?_)
          rw [← hU]; exact hz
      have hne : 0 < A2.length := by
        have := Li.all_ne hgU
        obtain ⟨z, hz⟩ := List.exists_mem_of_ne_nil _ this
        have : z ∈ A2 := by rw [hA2, Li.putAll_mem]; exact .inr hz
        exact List.length_pos_of_mem this
      rw [← hA1] at hq1
      rw [← hA2] at hq2
      have hq1 := (hq1.le hS5).le hS6
      obtain ⟨q2a, q2b, q2c⟩ := hq2
      obtain ⟨q1p, q1n, q1k⟩ := q1
      obtain ⟨q2p, q2n, q2k⟩ := q2
      have q2a : q2n = A2.length := q2a
      subst q2a
      refine onF (onF (offE (beq_eq_false_iff_ne.2 (show ¬ ((A2.length : Nat) : Int) = 0 by omega)) ?_))
      refine ⟨[], [], Nat, List.range' 116 13, fun i => [(17, rI i)], fun _ => [.box [.v (.slice fp first.length fc), .v (.slice p T.length c)], .box [.v (.slice fp first.length fc), .v (.slice p5 (List.map Prod.fst L).length c5)], .gone], fun _ => S6, fun i => i ≤ A2.length, fun i => A2.length - i, ?_⟩
      refine And.intro (Exists.intro 0 (And.intro (And.intro (And.intro ?_ rfl) (And.intro rfl (Store.le_refl _))) (Nat.zero_le _))) ?_
      · repeat' first | exact trivial | exact rfl | refine And.intro ?_ ?_
      intro i hi
      have hi : i ≤ A2.length := hi
      refine And.intro (fun h4 => ?_) (fun h4 => ⟨rfl, (), rfl, trivial⟩)
      have h4 : (i : Int) < ((A2.length : Nat) : Int) := of_decide_eq_true h4
      have hix : i < A2.length := by omega
      obtain ⟨b1, o1, e1, ok1, hr1⟩ := row_at q2c (i := i) (x := bs A2[i]) (by rw [List.getElem?_map, List.getElem?_eq_getElem hix]; rfl)
      refine ⟨Int.natCast_nonneg _, h4, b1, o1, e1, bs A2[i], ok1, hr1, ?_⟩
      refine ⟨⟨_, rfl, rfl, rfl⟩, .inl ⟨_, _, _, in_spec S6 _ _ A2[i] hq1 (by omega), fun S7 _ hS7 _ => ?_⟩⟩
      refine offE (by rw [decide_eq_true (hsub _ (List.getElem_mem hix))]; rfl) ?_
      refine ⟨((i + 1 : Nat) : Int), wrap_i64 (by omega) (by omega), i + 1, ⟨⟨?_, rfl⟩, rfl, hS7⟩, by show i + 1 ≤ _; omega, by show A2.length - (i + 1) < A2.length - i; omega⟩
      repeat' first | exact trivial | exact rfl | refine And.intro ?_ ?_
  · refine onE (bne_iff_ne.2 h0) ⟨rfl, (), rfl, trivial⟩
end Go.Proofs.YtapblcfbmaikjaaGreatDoor
