/- law09: the reference's search: put (78), New (80), Begin (44). -/
import Derived.Test.YtapblcfbmaikjaaGreatDoorHb
import Derived.Sort.Walk0
namespace Go.Proofs.YtapblcfbmaikjaaGreatDoor
open Go Go.Vc Go.Sort Go.RowKit Go.Maps
set_option maxRecDepth 100000
set_option maxHeartbeats 1000000

theorem bsl (u v : List UInt8) : Op.bytesLess (bs u).toList (bs v).toList = decide (u < v) := by
  rw [bytesLess_eq, ByteArray.toList_eq, ByteArray.toList_eq]; rfl
theorem put_at (s : Li.Bs) : ∀ (xs : List Li.Bs) (i : Nat), (∀ y ∈ xs.take i, y < s) → Li.putR xs s = xs.take i ++ Li.putR (xs.drop i) s
  | [], i, _ => by simp
  | y :: l, 0, _ => rfl
  | y :: l, i + 1, h => by
    have hy : y < s := h y (by simp)
    show (if y < s then y :: Li.putR l s else if y = s then y :: l else s :: y :: l) = y :: (l.take i ++ Li.putR (l.drop i) s)
    rw [if_pos hy, put_at s l i fun z hz => h z (by simp [hz])]
theorem rput_spec (S : Store) (q : Hd) (xs : List Li.Bs) (s : Li.Bs) (hq : SsIs S q xs) (hl : xs.length ≤ 1073741824) :
    Pure Tryz.prog 78 S [slV q, .string (bs s)] (A := Hd) rSl (fun S' q' => SsIs S' q' (Li.putR xs s)) := by
  obtain ⟨h1, h2, h3⟩ := hq
  obtain ⟨qp, qn, qc⟩ := q
  have h1 : qn = xs.length := h1
  subst h1
  refine pure_vc agrees Tryz.func78 rfl rfl (fun S S' q hle h => h.le hle) ?_
  refine ⟨[], [], Nat, List.range' 7 14, fun i => [(5, rI i)], fun _ => [], fun _ => S, fun i => i ≤ xs.length ∧ ∀ y ∈ xs.take i, y < s, fun i => xs.length - i, ?_⟩
  refine And.intro (Exists.intro 0 (And.intro (And.intro (And.intro ?_ rfl) (And.intro rfl (Store.le_refl _))) ⟨Nat.zero_le _, fun y hy => by simp at hy⟩)) ?_
  · repeat' first | exact trivial | exact rfl | refine And.intro ?_ ?_
  rintro i ⟨hi, hz⟩
  have hi : i ≤ xs.length := hi
  obtain ⟨V, hV0⟩ : ∃ V : List ByteArray, V = xs.map bs := ⟨_, rfl⟩
  have hV : RowRd S qp .str V := by rw [hV0]; exact h3
  have hVl : V.length = xs.length := by rw [hV0, List.length_map]
  have hV1 : i = (V.take i).length := by rw [List.length_take]; omega
  have hV2 : xs.length - i = (V.drop i).length := by rw [List.length_drop]; omega
  have hV3 : xs.length - (i : Int).toNat = (V.drop (i : Int).toNat).length := by rw [Int.toNat_natCast]; exact hV2
  have h2 : xs.length ≤ qc := h2
  have hVc : V.length ≤ qc := by omega
  have i0 : (0 : Int) ≤ (i : Int) := Int.natCast_nonneg _
  have ic : ((i : Nat) : Int).toNat ≤ qc := by omega
  have il : ((i : Nat) : Int).toNat ≤ xs.length := by omega
  have bt1 : (0 + (V.take i).length) * 16 ≤ 140737488355328 := by omega
  have bt2 : ((V.take i).length + 1) * 16 ≤ 140737488355328 := by omega
  have bt3 : (([] ++ V.take i ++ [bs s]).length + (V.drop (i : Int).toNat).length) * 16 ≤ 140737488355328 := by rw [List.nil_append, List.length_append, ← hV3]; simp only [List.length_cons, List.length_nil]; omega
  have hsrc := src_of (n := xs.length - (i : Int).toNat) hV3 (hV.drop (k := (i : Int).toNat) hVc rfl)
  have hVe : Li.putR xs s = xs.take i ++ s :: xs.drop i → [] ++ V.take i ++ [bs s] ++ V.drop (i : Int).toNat = (Li.putR xs s).map bs := fun h => by
    rw [h, hV0, Int.toNat_natCast]; simp
  by_cases g1 : (i : Int) < ((xs.length : Nat) : Int)
  · refine onE (decide_eq_true g1) ?_
    obtain ⟨x, hx⟩ : ∃ x, xs[i]? = some x := ⟨_, List.getElem?_eq_getElem (by omega)⟩
    obtain ⟨b, o, e, ok, r⟩ := row_at (sh := .str) h3 (i := i) (x := bs x) (by rw [List.getElem?_map, hx]; rfl)
    refine ⟨Int.natCast_nonneg _, g1, b, o, e, bs x, ok, r, ?_⟩
    by_cases g2 : x < s
    · refine onE (by rw [bsl]; exact decide_eq_true g2) ?_
      refine ⟨((i + 1 : Nat) : Int), wrap_i64 (by omega) (by omega), i + 1, ⟨⟨?_, rfl⟩, rfl, Store.le_refl _⟩, ⟨by show i + 1 ≤ _; omega, take_more hx hz g2⟩, by show xs.length - (i + 1) < xs.length - i; omega⟩
      repeat' first | exact trivial | exact rfl | refine And.intro ?_ ?_
    · refine offE (by rw [bsl]; exact decide_eq_false g2) ?_
      have hdr : xs.drop i = x :: xs.drop (i + 1) := by
        obtain ⟨h, e⟩ := List.getElem?_eq_some_iff.1 hx
        rw [← e]; exact List.drop_eq_getElem_cons h
      have hput := put_at s xs i hz
      rw [hdr] at hput
      refine onE (decide_eq_true g1) ⟨Int.natCast_nonneg _, g1, b, o, e, bs x, ok, r, ?_⟩
      by_cases g3 : x = s
      · refine onE (by rw [bsq]; exact decide_eq_true g3) ?_
        refine ⟨rfl, (qp, xs.length, qc), rfl, ?_⟩
        have : Li.putR (x :: xs.drop (i + 1)) s = x :: xs.drop (i + 1) := by
          show (if x < s then _ else if x = s then _ else _) = _
          rw [if_neg g2, if_pos g3]
        rw [hput, this, ← hdr, List.take_append_drop]
        exact ⟨rfl, h2, h3⟩
      · refine offE (by rw [bsq]; exact decide_eq_false g3) ?_
        have : Li.putR (x :: xs.drop (i + 1)) s = s :: x :: xs.drop (i + 1) := by
          show (if x < s then _ else if x = s then _ else _) = _
          rw [if_neg g2, if_neg g3]
        rw [this, ← hdr] at hput
        refine ⟨i0, ic, ?_⟩
        refine ⟨V.take i, src_of (n := i) hV1 (hV.take i), fun _ _ => trivial, bt1, ?_⟩
        refine ⟨[bs s], ⟨rfl, rfl⟩, fun _ _ => trivial, bt2, ?_⟩
        refine ⟨i0, il, h2, ?_⟩
        refine ⟨V.drop (i : Int).toNat, hsrc, fun _ _ => trivial, bt3, ?_⟩
        intro p5 c5 S5 hS5 hr5 hpf5
        have hr5 : RowRd S5 p5 .str ([] ++ V.take i ++ [bs s] ++ V.drop (i : Int).toNat) := hr5
        have hf5 : PForm p5 ([] ++ V.take i ++ [bs s] ++ V.drop (i : Int).toNat).length c5 := hpf5.1
        rw [hVe hput] at hr5 hf5
        have hcc := pform_le hf5
        rw [List.length_map] at hcc
        refine ⟨rfl, (p5, ([] ++ V.take i ++ [bs s] ++ V.drop (i : Int).toNat).length, c5), rfl, ?_, hcc, hr5⟩
        show ([] ++ V.take i ++ [bs s] ++ V.drop (i : Int).toNat).length = _
        rw [hVe hput, List.length_map]
  · refine offE (decide_eq_false g1) (onF ?_)
    have hil : i = xs.length := by omega
    have hput := put_at s xs i hz
    have hdn : xs.drop i = [] := List.drop_eq_nil_of_le (by omega)
    rw [hdn] at hput
    have hput : Li.putR xs s = xs.take i ++ s :: xs.drop i := by rw [hdn]; exact hput
    refine offE (decide_eq_false g1) (onF ?_)
    refine ⟨i0, ic, ?_⟩
    refine ⟨V.take i, src_of (n := i) hV1 (hV.take i), fun _ _ => trivial, bt1, ?_⟩
    refine ⟨[bs s], ⟨rfl, rfl⟩, fun _ _ => trivial, bt2, ?_⟩
    refine ⟨i0, il, h2, ?_⟩
    refine ⟨V.drop (i : Int).toNat, hsrc, fun _ _ => trivial, bt3, ?_⟩
    intro p5 c5 S5 hS5 hr5 hpf5
    have hr5 : RowRd S5 p5 .str ([] ++ V.take i ++ [bs s] ++ V.drop (i : Int).toNat) := hr5
    have hf5 : PForm p5 ([] ++ V.take i ++ [bs s] ++ V.drop (i : Int).toNat).length c5 := hpf5.1
    rw [hVe hput] at hr5 hf5
    have hcc := pform_le hf5
    rw [List.length_map] at hcc
    refine ⟨rfl, (p5, ([] ++ V.take i ++ [bs s] ++ V.drop (i : Int).toNat).length, c5), rfl, ?_, hcc, hr5⟩
    show ([] ++ V.take i ++ [bs s] ++ V.drop (i : Int).toNat).length = _
    rw [hVe hput, List.length_map]
theorem rnew_spec (S : Store) (k : Nat) (hk : 1 ≤ k) (hk8 : k ≤ 8) (q : Hd) (ws : List Li.Wd) (hq : WsIs S q ws) (hne : 0 < ws.length) (hn : ws.length ≤ 8) :
    Pure Tryz.prog 80 S [.int .i64 (k : Int), slV q] (A := Mm) rME (fun S' x => RmIs S' x (Li.initM ws k)) := by
  have hl := hq.len
  obtain ⟨p, n, c⟩ := q
  have hl : n = ws.length := hl
  subst hl
  refine pure_vc agrees Tryz.func80 rfl rfl (fun S S' q hle h => h.le hle) ?_
  refine offE (decide_eq_false (show ¬ (k : Int) < 1 by omega)) ?_
  refine offE (decide_eq_false (show ¬ (k : Int) > 8 by omega)) ?_
  refine offE (show (((ws.length : Nat) : Int) == 0) = false from beq_eq_false_iff_ne.2 (by omega)) ?_
  refine offE (decide_eq_false (show ¬ ((ws.length : Nat) : Int) > 4096 by omega)) ?_
  have mk8 : (8 : Int) * ((ws.length : Nat) : Int) ≤ 140737488355328 := by omega
  have mk1 : ((ws.length : Nat) : Int) ≤ 140737488355328 := by omega
  have zr : (List.replicate ws.length (0 : Int)).length = ws.length := List.length_replicate ..
  have hz : ∀ (S5 : Store) (p5 : Option Addr) (c5 : Nat), RowRd S5 p5 shI (List.replicate ws.length (0 : Int)) → PForm p5 (List.replicate ws.length (0 : Int)).length c5 → DidIs S5 (p5, (List.replicate ws.length (0 : Int)).length, c5) (List.replicate ws.length 0) := fun S5 p5 c5 r5 f5 => by
    have hc := pform_le f5
    rw [List.length_replicate] at hc
    exact ⟨by rw [List.length_replicate, List.length_replicate], by rw [List.length_replicate]; exact hc, by rw [List.map_replicate]; exact r5⟩
  refine ⟨[], [(300001, .slice, 71)], Nat × List (Hd × List Nat) × Store, List.range' 24 13, fun z => [(7, rI z.1)], fun z => [.box [.v (.slice none 0 0), .v (.slice none 0 0)], .box [.ref 2, .v (.slice none 0 0)], .row .slice 71 (z.2.1.map (·.1))], fun z => z.2.2,
    fun z => z.1 ≤ k ∧ S.le z.2.2 ∧ z.2.1.map (·.2) = List.replicate z.1 (List.replicate ws.length 0) ∧ ∀ y ∈ z.2.1, DidIs z.2.2 y.1 y.2, fun z => k - z.1, ?_⟩
  refine And.intro (Exists.intro (0, [], S) (And.intro (And.intro (And.intro ?_ rfl) (And.intro rfl (Store.le_refl _))) ⟨Nat.zero_le _, Store.le_refl _, rfl, fun y hy => by cases hy⟩)) ?_
  · repeat' first | exact trivial | exact rfl | refine And.intro ?_ ?_
  rintro ⟨i, L, S1⟩ ⟨hi, hle, hL, hH⟩
  simp only at hi hle hL hH
  have hLl : L.length = i := by
    have := congrArg List.length hL
    rw [List.length_map, List.length_replicate] at this; exact this
  have hxs : (L.map (·.1)).length = i := by rw [List.length_map, hLl]
  refine And.intro (fun h1 => ?_) (fun h1 => ?_)
  · have h1 : (i : Int) < (k : Int) := of_decide_eq_true h1
    refine ⟨or80_11, [1, 2, 3, 4], oF80_11, by kernel_rfl, ?_⟩
    repeat' (first
      | exact trivial
      | refine ⟨Int.natCast_nonneg _, Int.le_refl _, mk8, mk1, ?_⟩
      | refine fun p5 c5 S5 hS5 hr5 hpf5 => ?_
      | refine ⟨[((p5, (List.replicate ws.length (0 : Int)).length, c5) : Hd)], ⟨rfl, rfl⟩, fun _ _ => trivial, (by show ((List.map Prod.fst L).length + 1) * 24 ≤ 140737488355328; have : (List.map Prod.fst L).length = i := hxs; omega), ?_⟩
      | refine And.intro ?_ ?_)
    all_goals
      refine ⟨((i + 1 : Nat) : Int), wrap_i64 (by omega) (by omega), (i + 1, L ++ [((p5, (List.replicate ws.length (0 : Int)).length, c5), List.replicate ws.length 0)], S5), ⟨⟨?_, rfl⟩, ?_, Store.le_refl _⟩, ⟨by show i + 1 ≤ k; omega, Store.le_trans hle hS5, ?_, fun y hy => ?_⟩, ?_⟩
      · repeat' first | exact trivial | exact rfl | refine And.intro ?_ ?_
      · show _ = [Res.box _, Res.box _, Res.row .slice 71 (List.map Prod.fst (L ++ [(((p5, (List.replicate ws.length (0 : Int)).length, c5), List.replicate ws.length 0) : Hd × List Nat)]))]
        rw [List.map_append]; rfl
      · show List.map Prod.snd (L ++ [(((p5, (List.replicate ws.length (0 : Int)).length, c5), List.replicate ws.length 0) : Hd × List Nat)]) = List.replicate (i + 1) _
        rw [List.map_append, hL, List.replicate_succ']; rfl
      · rcases List.mem_append.1 hy with hy | hy
        · exact (hH y hy).le hS5
        · simp only [List.mem_singleton] at hy; subst hy; exact hz S5 p5 c5 hr5 hpf5.1
      · show k - (i + 1) < k - i
        omega
  · have h1 : ¬ (i : Int) < (k : Int) := of_decide_eq_false h1
    have hik : i = k := by omega
    subst hik
    refine ⟨[], [(301001, .slice, 204)], Nat × List (Hd × List Li.Msg) × Store, List.range' 37 20, fun z => [(8, rI z.1)], fun z => [.box [.v (.slice none 0 0), .v (.slice none 0 0)], .box [.ref 2, .ref 3], .row .slice 71 (L.map (·.1)), .row .slice 204 (z.2.1.map (·.1))], fun z => z.2.2,
      fun z => z.1 ≤ ws.length ∧ S1.le z.2.2 ∧ z.2.1.map (·.2) = (ws.take z.1).map (fun w => [⟨w, List.replicate ws.length 0⟩]) ∧ ∀ y ∈ z.2.1, RhIs z.2.2 y.1 y.2, fun z => ws.length - z.1, ?_⟩
    refine And.intro (Exists.intro (0, [], S1) (And.intro (And.intro (And.intro ?_ rfl) (And.intro rfl (Store.le_refl _))) ⟨Nat.zero_le _, Store.le_refl _, rfl, fun y hy => by cases hy⟩)) ?_
    · repeat' first | exact trivial | exact rfl | refine And.intro ?_ ?_
    rintro ⟨j, M, S2⟩ ⟨hj, hle2, hM, hG⟩
    simp only at hj hle2 hM hG
    have hMl : M.length = j := by
      have := congrArg List.length hM
      rw [List.length_map, List.length_map, List.length_take] at this; omega
    have hms : (M.map (·.1)).length = j := by rw [List.length_map, hMl]
    refine And.intro (fun h2 => ?_) (fun h2 => ?_)
    · have h2 : (j : Int) < ((ws.length : Nat) : Int) := of_decide_eq_true h2
      have hjn : j < ws.length := by omega
      obtain ⟨x, y, b, o, hm, ⟨hx, hok⟩, hp, hok2, hrd⟩ := (WsIs.le (Store.le_trans hle hle2) hq).at hjn
      subst hx
      obtain ⟨w1, w2, w3⟩ := x
      refine ⟨or80_15, [1, 3, 4, 5, 6], oF80_15, by kernel_rfl, ?_⟩
      refine ⟨Int.natCast_nonneg _, h2, b, o, hp, ((w1, w2, w3) : Li.Wd), hok2, hrd, ?_⟩
      repeat' (first
        | exact trivial
        | refine ⟨Int.natCast_nonneg _, Int.le_refl _, mk8, mk1, ?_⟩
        | refine fun p5 c5 S5 hS5 (hr5 : RowRd S5 p5 shI (List.replicate ws.length (0 : Int))) hpf5 => ?_
        | refine fun p6 c6 S6 hS6 (hr6 : RowRd S6 p6 shRg _) hpf6 => ?_
        | refine ⟨[((p6, 1, c6) : Hd)], ⟨rfl, rfl⟩, fun _ _ => trivial, (by show ((List.map Prod.fst M).length + 1) * 24 ≤ 140737488355328; have : (List.map Prod.fst M).length = j := hms; omega), ?_⟩
        | refine And.intro ?_ ?_)
      all_goals
        have hrg : RhIs S6 (p6, 1, c6) [⟨(w1, w2, w3), List.replicate ws.length 0⟩] := by
          refine ⟨[((((w1, w2, w3), (p5, (List.replicate ws.length (0 : Int)).length, c5)) : Gx), (⟨(w1, w2, w3), List.replicate ws.length 0⟩ : Li.Msg))], rfl, rfl, pform_le hpf6.1, hr6, fun z hz' => ?_⟩
          simp only [List.mem_singleton] at hz'
          subst hz'
          exact ⟨rfl, hok, (hz S5 p5 c5 hr5 hpf5.1).le hS6⟩
        refine ⟨((j + 1 : Nat) : Int), wrap_i64 (by omega) (by omega), (j + 1, M ++ [((p6, 1, c6), [⟨(w1, w2, w3), List.replicate ws.length 0⟩])], S6), ⟨⟨?_, rfl⟩, ?_, Store.le_refl _⟩, ⟨hjn, Store.le_trans hle2 (Store.le_trans hS5 hS6), ?_, fun y hy => ?_⟩, ?_⟩
        · repeat' first | exact trivial | exact rfl | refine And.intro ?_ ?_
        · show _ = [Res.box _, Res.box _, Res.row .slice 71 _, Res.row .slice 204 (List.map Prod.fst (M ++ [(((p6, 1, c6), [⟨(w1, w2, w3), List.replicate ws.length 0⟩]) : Hd × List Li.Msg)]))]
          rw [List.map_append]; rfl
        · show List.map Prod.snd (M ++ [(((p6, 1, c6), [⟨(w1, w2, w3), List.replicate ws.length 0⟩]) : Hd × List Li.Msg)]) = (ws.take (j + 1)).map _
          rw [List.map_append, hM, List.take_add_one, hm, List.map_append]; rfl
        · rcases List.mem_append.1 hy with hy | hy
          · exact (hG y hy).le (Store.le_trans hS5 hS6)
          · simp only [List.mem_singleton] at hy; subst hy; exact hrg
        · show ws.length - (j + 1) < ws.length - j
          omega
    · have h2 : ¬ (j : Int) < ((ws.length : Nat) : Int) := of_decide_eq_false h2
      have hjn : j = ws.length := by omega
      subst hjn
      rw [List.take_length] at hM
      intro p5 c5 S5 hS5 hr5 hpf5 p6 c6 S6 hS6 hr6 hpf6
      refine ⟨rfl, ((p5, (L.map (·.1)).length, c5), (p6, (M.map (·.1)).length, c6)), rfl, ⟨L, hL, List.length_map .., pform_le hpf5.1, hr5.le hS6, fun z hz => (hH z hz).le (Store.le_trans hle2 (Store.le_trans hS5 hS6))⟩, ⟨M, hM, List.length_map .., pform_le hpf6.1, hr6, fun z hz => (hG z hz).le (Store.le_trans hS5 hS6)⟩⟩
theorem wt_of {S : Store} {q : Hd} {ws : List Li.Wd} (h : WsIs S q ws) : WtIs S q ws := by
  obtain ⟨h1, -, h3, h4⟩ := ws_row h
  exact ⟨h1, h3, h4⟩
theorem rbegin_spec (S : Store) (x : Tz) (first : List Li.Wd) (T : List (List Li.Act)) (hx : TestIs S x first T) (hn0 : 0 < first.length) (hn : first.length ≤ 8) (hT1 : 0 < T.length) (hT : T.length ≤ 8) :
    Pure Tryz.prog 44 S [vT x] (A := Rz) rRz (fun S' y => RzIs S' y (Li.beginS first T)) := by
  have htl := hx.t.len
  have hnew := rnew_spec S T.length hT1 hT x.1 first hx.f hn0 hn
  obtain ⟨⟨fp, fn, fc⟩, ⟨p, n, c⟩⟩ := x
  have htl : n = T.length := htl
  subst htl
  refine pure_vc agrees Tryz.func44 rfl rfl (fun S S' q hle h => h.le hle) ?_
  refine ⟨⟨_, rfl, rfl, rfl⟩, .inl ⟨_, _, _, hnew, fun S1 y hS1 hy => ?_⟩⟩
  obtain ⟨⟨y1, y2, y3⟩, ⟨y4, y5, y6⟩⟩ := y
  have mk8 : (8 : Int) * ((T.length : Nat) : Int) ≤ 140737488355328 := by omega
  have mk24 : (24 : Int) * ((T.length : Nat) : Int) ≤ 140737488355328 := by omega
  have mk1 : ((T.length : Nat) : Int) ≤ 140737488355328 := by omega
  have fin : ∀ (S5 S6 : Store) (p5 : Option Addr) (c5 : Nat) (p6 : Option Addr) (c6 : Nat), S1.le S5 → RowRd S5 p5 shI (List.replicate T.length (0 : Int)) → PForm p5 (List.replicate T.length (0 : Int)).length c5 → S5.le S6 → RowRd S6 p6 .slice (List.replicate T.length ((none, 0, 0) : Hd)) →
      RzIs S6 (((y1, y2, y3), (y4, y5, y6)), (p5, (List.replicate T.length (0 : Int)).length, c5), (p6, (List.replicate T.length ((none, 0, 0) : Hd)).length, c6)) (Li.beginS first T) := fun S5 S6 p5 c5 p6 c6 h5 r5 f5 h6 r6 => by
    refine ⟨hy.le (Store.le_trans h5 h6), ?_, List.replicate T.length ((none, 0, 0), []), ?_, ?_, ?_, fun z hz => ?_⟩
    · have hc := pform_le f5
      refine DidIs.le h6 ⟨?_, ?_, ?_⟩
      · show (List.replicate T.length (0 : Int)).length = (List.replicate T.length 0).length
        rw [List.length_replicate, List.length_replicate]
      · rw [List.length_replicate] at hc
        show (List.replicate T.length 0).length ≤ c5
        rw [List.length_replicate]; exact hc
      · show RowRd S5 p5 shI ((List.replicate T.length 0).map fun i : Nat => (i : Int))
        rw [List.map_replicate]; exact r5
    · rw [List.map_replicate]; rfl
    · show (List.replicate T.length ((none, 0, 0) : Hd)).length = _
      rw [List.length_replicate, List.length_replicate]
    · rw [List.map_replicate]; exact r6
    · obtain ⟨-, rfl⟩ := List.mem_replicate.1 hz
      exact ⟨rfl, (wt_of (ws_nil S6)).2.1, fun w hw => by cases hw⟩
  refine ⟨or44_2, [1, 3, 4], oF44_2, by kernel_rfl, ?_⟩
  repeat' (first
    | exact trivial
    | refine ⟨Int.natCast_nonneg _, Int.le_refl _, mk8, mk1, ?_⟩
    | refine ⟨Int.natCast_nonneg _, Int.le_refl _, mk24, mk1, ?_⟩
    | refine And.intro ?_ ?_)
  all_goals
    intro p5 c5 S5 hS5 hr5 hpf5 p6 c6 S6 hS6 hr6 hpf6
    exact ⟨rfl, _, rfl, fin S5 S6 p5 c5 p6 c6 hS5 hr5 hpf5.1 hS6 hr6⟩
end Go.Proofs.YtapblcfbmaikjaaGreatDoor
