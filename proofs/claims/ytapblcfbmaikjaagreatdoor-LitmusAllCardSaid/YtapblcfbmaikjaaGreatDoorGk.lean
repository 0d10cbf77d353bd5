/- law09: the reference's Text of an outcome (41). -/
import Derived.Test.YtapblcfbmaikjaaGreatDoorGj
namespace Go.Proofs.YtapblcfbmaikjaaGreatDoor
open Go Go.Vc Go.Sort Go.RowKit Go.Maps
set_option maxRecDepth 100000
set_option maxHeartbeats 8000000

def WtIs (S : Store) (h : Hd) (ws : List Li.Wd) : Prop := h.2.1 = ws.length ∧ RowRd S h.1 shW ws ∧ ∀ w ∈ ws, okW w
def TdIs (S : Store) (q : Hd) (told : List (List Li.Wd)) : Prop := ∃ L : List (Hd × List Li.Wd), L.map (·.2) = told ∧ q.2.1 = L.length ∧ RowRd S q.1 .slice (L.map (·.1)) ∧ ∀ z ∈ L, WtIs S z.1 z.2
theorem TdIs.at {S : Store} {q : Hd} {told : List (List Li.Wd)} (h : TdIs S q told) {i : Nat} (hi : i < told.length) : ∃ (x : Hd) (y : List Li.Wd) (b o : Nat), told[i]? = some y ∧ WtIs S x y ∧ q.1 = some ⟨b, o, none⟩ ∧ Shape.slice.ok x ∧ S.rd b (o + i * Shape.slice.n) (Shape.slice.enc x) := by
  obtain ⟨L, rfl, -, hr, hK⟩ := h
  rw [List.length_map] at hi
  obtain ⟨z, hz⟩ : ∃ z, L[i]? = some z := ⟨_, List.getElem?_eq_getElem hi⟩
  obtain ⟨b, o, hp, hok, hrd⟩ := row_at (sh := .slice) hr (i := i) (x := z.1) (by rw [List.getElem?_map, hz]; rfl)
  exact ⟨z.1, z.2, b, o, by rw [List.getElem?_map, hz]; rfl, hK z (List.mem_of_getElem? hz), hp, hok, hrd⟩
def inI (y : List Li.Wd) (j : Nat) : Li.Bs := if y = [] then [45] else Lib.join ((y.take j).map Li.textW) [32]
theorem inI_all (y : List Li.Wd) : inI y y.length = Li.cellT y := by unfold inI Li.cellT; rw [List.take_length]
theorem inI_more {y : List Li.Wd} {j : Nat} {w : Li.Wd} (h : y[j]? = some w) : inI y (j + 1) = inI y j ++ (if j = 0 then [] else [32]) ++ Li.textW w := by
  have hy : y ≠ [] := fun e => by subst e; simp at h
  have hj := (List.getElem?_eq_some_iff.1 h).1
  unfold inI
  rw [if_neg hy, if_neg hy, List.take_add_one, h, List.map_append]
  show Lib.join ((y.take j).map Li.textW ++ [Li.textW w]) [32] = _
  rw [join_snoc]
  by_cases h0 : j = 0
  · subst h0; simp [Lib.join_nil]
  · rw [if_neg h0, if_neg]
    intro e
    have := congrArg List.length e
    rw [List.length_map, List.length_take] at this
    simp only [List.length_nil] at this; omega
theorem upI_more {told : List (List Li.Wd)} {i : Nat} {y : List Li.Wd} (h : told[i]? = some y) : Lib.join ((told.take (i + 1)).map Li.cellT) [32, 124, 32] = Lib.join ((told.take i).map Li.cellT) [32, 124, 32] ++ (if i = 0 then [] else [32, 124, 32]) ++ Li.cellT y := by
  have hj := (List.getElem?_eq_some_iff.1 h).1
  rw [List.take_add_one, h, List.map_append]
  show Lib.join ((told.take i).map Li.cellT ++ [Li.cellT y]) [32, 124, 32] = _
  rw [join_snoc]
  by_cases h0 : i = 0
  · subst h0; simp [Lib.join_nil]
  · rw [if_neg h0, if_neg]
    intro e
    have := congrArg List.length e
    rw [List.length_map, List.length_take] at this
    simp only [List.length_nil] at this; omega
theorem inI_le {y : List Li.Wd} (hw : ∀ w ∈ y, okW w) (hl : y.length ≤ 10000) (j : Nat) : (inI y j).length ≤ 1000000 := by
  unfold inI
  split
  · show 1 ≤ _; omega
  · have := join_le [32] 90 ((y.take j).map Li.textW) fun v hv => by
      obtain ⟨w, hw', rfl⟩ := List.mem_map.1 hv
      exact text_len (hw w (List.mem_of_mem_take hw'))
    rw [List.length_map, List.length_take] at this
    have h2 : min j y.length * (90 + [32].length) ≤ 10000 * 91 := Nat.mul_le_mul (by omega) (by decide)
    omega
theorem upI_le {told : List (List Li.Wd)} (hw : ∀ y ∈ told, (∀ w ∈ y, okW w) ∧ y.length ≤ 10000) (ht : told.length ≤ 8) (i : Nat) : (Lib.join ((told.take i).map Li.cellT) [32, 124, 32]).length ≤ 8100000 := by
  have := join_le [32, 124, 32] 1000000 ((told.take i).map Li.cellT) fun v hv => by
    obtain ⟨y, hy, rfl⟩ := List.mem_map.1 hv
    have hy := hw y (List.mem_of_mem_take hy)
    rw [← inI_all]; exact inI_le hy.1 hy.2 _
  rw [List.length_map, List.length_take] at this
  have h2 : min i told.length * (1000000 + [32, 124, 32].length) ≤ 8 * 1000003 := Nat.mul_le_mul (by omega) (by decide)
  omega
theorem fl_le {ws : List Li.Wd} (hw : ∀ w ∈ ws, okW w) (hl : ws.length ≤ 8) (k : Nat) : ((ws.take k).flatMap fun w => 32 :: Li.textW w).length ≤ 1000 := by
  have : ∀ l : List Li.Wd, (∀ w ∈ l, okW w) → (l.flatMap fun w => 32 :: Li.textW w).length ≤ l.length * 91 := fun l => by
    induction l with
    | nil => intro _; simp
    | cons w l ih =>
      intro h
      have h1 := ih fun v hv => h v (List.mem_cons_of_mem _ hv)
      have h2 := text_len (h w (List.mem_cons_self ..))
      rw [List.flatMap_cons, List.length_append, List.length_cons, List.length_cons, Nat.succ_mul]; omega
  have h1 := this (ws.take k) fun w hw' => hw w (List.mem_of_mem_take hw')
  rw [List.length_take] at h1
  have h2 : min k ws.length * 91 ≤ 8 * 91 := Nat.mul_le_mul (by omega) (by decide)
  omega
theorem rtexto_spec (S : Store) (q p : Hd) (told : List (List Li.Wd)) (ws : List Li.Wd) (hq : TdIs S q told) (hp : WtIs S p ws) (ht : told.length ≤ 8) (hlen : ∀ y ∈ told, y.length ≤ 10000) (hw8 : ws.length ≤ 8) :
    Pure Tryz.prog 41 S [slV q, slV p] (A := Unit) (fun _ => rS (bs (Li.textO told ws))) (fun _ _ => True) := by
  have hall : ∀ y ∈ told, (∀ w ∈ y, okW w) ∧ y.length ≤ 10000 := fun y hy => by
    refine ⟨?_, hlen y hy⟩
    obtain ⟨L, e, -, -, hK⟩ := hq
    rw [← e] at hy
    obtain ⟨z, hz, rfl⟩ := List.mem_map.1 hy
    exact (hK z hz).2.2
  have hql : q.2.1 = told.length := by obtain ⟨L, e, h, -, -⟩ := hq; rw [h, ← e, List.length_map]
  obtain ⟨hpl, hpr, hpo⟩ := hp
  obtain ⟨qp, qn, qc⟩ := q
  obtain ⟨pp, pn, pc⟩ := p
  have hql : qn = told.length := hql
  have hpl : pn = ws.length := hpl
  subst hql hpl
  have hpr : RowRd S pp shW ws := hpr
  have c1 : (ByteArray.mk #[32]).size = 1 := rfl
  have c3 : (ByteArray.mk #[32, 124, 32]).size = 3 := rfl
  have cd : (ByteArray.mk #[45]).size = 1 := rfl
  have c2 : (ByteArray.mk #[32, 58]).size = 2 := rfl
  refine pure_vc agrees Tryz.func41 rfl rfl (fun S S' q hle h => h) ?_
  refine ⟨[], [], Nat × ByteArray, [7] ++ List.range' 9 41, fun z => [(6, rI z.1), (5, .c (.v (.string z.2)))], fun _ => [], fun _ => S, fun z => z.1 ≤ told.length ∧ z.2 = bs (Lib.join ((told.take z.1).map Li.cellT) [32, 124, 32]), fun z => told.length - z.1, ?_⟩
  refine And.intro (Exists.intro (0, bs []) (And.intro (And.intro (And.intro ?_ rfl) (And.intro rfl (Store.le_refl _))) ⟨Nat.zero_le _, rfl⟩)) ?_
  · repeat' first | exact trivial | exact rfl | refine And.intro ?_ ?_
  rintro ⟨i, s⟩ ⟨hi, hs⟩
  have hi : i ≤ told.length := hi
  have hs : s = bs (Lib.join ((told.take i).map Li.cellT) [32, 124, 32]) := hs
  have hsz : s.size ≤ 8100000 := by rw [hs, bs_size]; exact upI_le hall ht i
  refine And.intro (fun h1 => ?_) (fun h1 => ?_)
  · have h1 : (i : Int) < ((told.length : Nat) : Int) := of_decide_eq_true h1
    obtain ⟨⟨hp, hn, hc⟩, y, b, o, hy, ⟨hyl, hyr, hyo⟩, he, hok, hrd⟩ := hq.at (i := i) (by omega)
    have hyl : hn = y.length := hyl
    subst hyl
    have hyr : RowRd S hp shW y := hyr
    have hy1 := hlen y (List.mem_of_getElem? hy)
    have hup := upI_more hy
    obtain ⟨base, hb⟩ : ∃ base, base = Lib.join ((told.take i).map Li.cellT) [32, 124, 32] ++ (if i = 0 then [] else [32, 124, 32]) := ⟨_, rfl⟩
    have hbl : base.length ≤ 8100003 := by
      rw [hb, List.length_append]
      have := upI_le hall ht i
      split
      · simp only [List.length_nil]; omega
      · simp only [List.length_cons, List.length_nil]; omega
    by_cases i0 : i = 0
    · have hc1 : s = bs base := by rw [hs, hb, if_pos i0, List.append_nil]
      refine offE (decide_eq_false (show ¬ (i : Int) > 0 by omega)) ?_
      refine ⟨Int.natCast_nonneg _, h1, b, o, he, ((hp, y.length, hc) : Hd), hok, hrd, ?_⟩
      by_cases y0 : y = []
      · have hc2 : s ++ ByteArray.mk #[45] = bs (base ++ inI y 0) := by
          have : inI y 0 = [45] := if_pos y0
          rw [hc1, this]; exact bs_app _ _
        refine onE (beq_iff_eq.2 (show ((y.length : Nat) : Int) = 0 by rw [y0]; rfl)) ⟨by show (s).size + (ByteArray.mk #[45]).size ≤ _; rw [hc1, cd, bs_size]; omega, ?_⟩
        obtain ⟨X, hX⟩ : ∃ X : ByteArray, X = (s ++ ByteArray.mk #[45]) := ⟨_, rfl⟩
        refine ⟨[], [], Nat × ByteArray, List.range' 27 23, fun z => [(7, rI z.1), (5, .c (.v (.string z.2)))], fun _ => [], fun _ => S, fun z => z.1 ≤ y.length ∧ z.2 = bs (base ++ inI y z.1), fun z => y.length - z.1, ?_⟩
        refine And.intro (Exists.intro (0, (s ++ ByteArray.mk #[45])) (And.intro (And.intro (And.intro ?_ rfl) (And.intro rfl (Store.le_refl _))) ⟨Nat.zero_le _, hc2⟩)) ?_
        · repeat' first | exact trivial | exact rfl | refine And.intro ?_ ?_
        rintro ⟨j, u⟩ ⟨hj, hu⟩
        have hj : j ≤ y.length := hj
        have hu : u = bs (base ++ inI y j) := hu
        have huz : u.size ≤ 9200000 := by
          rw [hu, bs_size, List.length_append]
          have := inI_le hyo hy1 j
          omega
        refine ⟨Int.natCast_nonneg _, h1, b, o, he, ((hp, y.length, hc) : Hd), hok, hrd, ?_⟩
        refine And.intro (fun h3 => ?_) (fun h3 => ?_)
        · have h3 : (j : Int) < ((y.length : Nat) : Int) := of_decide_eq_true h3
          obtain ⟨w, hw⟩ : ∃ w, y[j]? = some w := ⟨_, List.getElem?_eq_getElem (by omega)⟩
          obtain ⟨b3, o3, e3, ok3, hr3⟩ := row_at hyr hw
          have hwo := hyo w (List.mem_of_getElem? hw)
          have hwl := text_len hwo
          have hin := inI_more hw
          by_cases j0 : j = 0
          · refine offE (decide_eq_false (show ¬ (j : Int) > 0 by omega)) ?_
            refine ⟨Int.natCast_nonneg _, h1, b, o, he, ((hp, y.length, hc) : Hd), hok, hrd, Int.natCast_nonneg _, h3, b3, o3, e3, w, ok3, hr3, ?_⟩
            refine ⟨⟨_, rfl, rfl, rfl⟩, .inl ⟨_, _, _, rtext_spec S w hwo, fun S6 _ hS6 _ => ?_⟩⟩
            refine ⟨by show u.size + _ ≤ _; rw [bs_size]; omega, ?_⟩
            refine ⟨((j + 1 : Nat) : Int), wrap_i64 (by omega) (by omega), (j + 1, u ++ bs (Li.textW w)), ⟨⟨?_, rfl⟩, rfl, hS6⟩, ⟨by show j + 1 ≤ _; omega, ?_⟩, by show y.length - (j + 1) < y.length - j; omega⟩
            · repeat' first | exact trivial | exact rfl | refine And.intro ?_ ?_
            · show u ++ bs (Li.textW w) = bs (base ++ inI y (j + 1))
              rw [hin, if_pos j0, hu, bs_app, List.append_nil, List.append_assoc]
          · refine onE (decide_eq_true (show (j : Int) > 0 by omega)) ⟨by show u.size + (ByteArray.mk #[32]).size ≤ _; rw [c1]; omega, ?_⟩
            refine ⟨Int.natCast_nonneg _, h1, b, o, he, ((hp, y.length, hc) : Hd), hok, hrd, Int.natCast_nonneg _, h3, b3, o3, e3, w, ok3, hr3, ?_⟩
            refine ⟨⟨_, rfl, rfl, rfl⟩, .inl ⟨_, _, _, rtext_spec S w hwo, fun S6 _ hS6 _ => ?_⟩⟩
            refine ⟨by show (u ++ ByteArray.mk #[32]).size + _ ≤ _; rw [ByteArray.size_append, c1, bs_size]; omega, ?_⟩
            refine ⟨((j + 1 : Nat) : Int), wrap_i64 (by omega) (by omega), (j + 1, u ++ ByteArray.mk #[32] ++ bs (Li.textW w)), ⟨⟨?_, rfl⟩, rfl, hS6⟩, ⟨by show j + 1 ≤ _; omega, ?_⟩, by show y.length - (j + 1) < y.length - j; omega⟩
            · repeat' first | exact trivial | exact rfl | refine And.intro ?_ ?_
            · show u ++ bs [32] ++ bs (Li.textW w) = bs (base ++ inI y (j + 1))
              rw [hin, if_neg j0, hu, bs_app, bs_app, List.append_assoc, List.append_assoc, List.append_assoc]
        · have h3 : ¬ (j : Int) < ((y.length : Nat) : Int) := of_decide_eq_false h3
          have hjy : j = y.length := by omega
          refine ⟨((i + 1 : Nat) : Int), wrap_i64 (by omega) (by omega), (i + 1, u), ⟨⟨?_, rfl⟩, rfl, Store.le_refl _⟩, ⟨by show i + 1 ≤ _; omega, ?_⟩, by show told.length - (i + 1) < told.length - i; omega⟩
          · repeat' first | exact trivial | exact rfl | refine And.intro ?_ ?_
          · show u = bs (Lib.join ((told.take (i + 1)).map Li.cellT) [32, 124, 32])
            rw [hu, hjy, inI_all, hup, ← hb]
      · have hc2 : s = bs (base ++ inI y 0) := by
          have : inI y 0 = [] := by unfold inI; rw [if_neg y0]; rfl
          rw [this, List.append_nil]; exact hc1
        refine offE (beq_eq_false_iff_ne.2 (show ¬ ((y.length : Nat) : Int) = 0 from fun e => y0 (List.eq_nil_of_length_eq_zero (by omega)))) ?_
        obtain ⟨X, hX⟩ : ∃ X : ByteArray, X = s := ⟨_, rfl⟩
        refine ⟨[], [], Nat × ByteArray, List.range' 27 23, fun z => [(7, rI z.1), (5, .c (.v (.string z.2)))], fun _ => [], fun _ => S, fun z => z.1 ≤ y.length ∧ z.2 = bs (base ++ inI y z.1), fun z => y.length - z.1, ?_⟩
        refine And.intro (Exists.intro (0, s) (And.intro (And.intro (And.intro ?_ rfl) (And.intro rfl (Store.le_refl _))) ⟨Nat.zero_le _, hc2⟩)) ?_
        · repeat' first | exact trivial | exact rfl | refine And.intro ?_ ?_
        rintro ⟨j, u⟩ ⟨hj, hu⟩
        have hj : j ≤ y.length := hj
        have hu : u = bs (base ++ inI y j) := hu
        have huz : u.size ≤ 9200000 := by
          rw [hu, bs_size, List.length_append]
          have := inI_le hyo hy1 j
          omega
        refine ⟨Int.natCast_nonneg _, h1, b, o, he, ((hp, y.length, hc) : Hd), hok, hrd, ?_⟩
        refine And.intro (fun h3 => ?_) (fun h3 => ?_)
        · have h3 : (j : Int) < ((y.length : Nat) : Int) := of_decide_eq_true h3
          obtain ⟨w, hw⟩ : ∃ w, y[j]? = some w := ⟨_, List.getElem?_eq_getElem (by omega)⟩
          obtain ⟨b3, o3, e3, ok3, hr3⟩ := row_at hyr hw
          have hwo := hyo w (List.mem_of_getElem? hw)
          have hwl := text_len hwo
          have hin := inI_more hw
          by_cases j0 : j = 0
          · refine offE (decide_eq_false (show ¬ (j : Int) > 0 by omega)) ?_
            refine ⟨Int.natCast_nonneg _, h1, b, o, he, ((hp, y.length, hc) : Hd), hok, hrd, Int.natCast_nonneg _, h3, b3, o3, e3, w, ok3, hr3, ?_⟩
            refine ⟨⟨_, rfl, rfl, rfl⟩, .inl ⟨_, _, _, rtext_spec S w hwo, fun S6 _ hS6 _ => ?_⟩⟩
            refine ⟨by show u.size + _ ≤ _; rw [bs_size]; omega, ?_⟩
            refine ⟨((j + 1 : Nat) : Int), wrap_i64 (by omega) (by omega), (j + 1, u ++ bs (Li.textW w)), ⟨⟨?_, rfl⟩, rfl, hS6⟩, ⟨by show j + 1 ≤ _; omega, ?_⟩, by show y.length - (j + 1) < y.length - j; omega⟩
            · repeat' first | exact trivial | exact rfl | refine And.intro ?_ ?_
            · show u ++ bs (Li.textW w) = bs (base ++ inI y (j + 1))
              rw [hin, if_pos j0, hu, bs_app, List.append_nil, List.append_assoc]
          · refine onE (decide_eq_true (show (j : Int) > 0 by omega)) ⟨by show u.size + (ByteArray.mk #[32]).size ≤ _; rw [c1]; omega, ?_⟩
            refine ⟨Int.natCast_nonneg _, h1, b, o, he, ((hp, y.length, hc) : Hd), hok, hrd, Int.natCast_nonneg _, h3, b3, o3, e3, w, ok3, hr3, ?_⟩
            refine ⟨⟨_, rfl, rfl, rfl⟩, .inl ⟨_, _, _, rtext_spec S w hwo, fun S6 _ hS6 _ => ?_⟩⟩
            refine ⟨by show (u ++ ByteArray.mk #[32]).size + _ ≤ _; rw [ByteArray.size_append, c1, bs_size]; omega, ?_⟩
            refine ⟨((j + 1 : Nat) : Int), wrap_i64 (by omega) (by omega), (j + 1, u ++ ByteArray.mk #[32] ++ bs (Li.textW w)), ⟨⟨?_, rfl⟩, rfl, hS6⟩, ⟨by show j + 1 ≤ _; omega, ?_⟩, by show y.length - (j + 1) < y.length - j; omega⟩
            · repeat' first | exact trivial | exact rfl | refine And.intro ?_ ?_
            · show u ++ bs [32] ++ bs (Li.textW w) = bs (base ++ inI y (j + 1))
              rw [hin, if_neg j0, hu, bs_app, bs_app, List.append_assoc, List.append_assoc, List.append_assoc]
        · have h3 : ¬ (j : Int) < ((y.length : Nat) : Int) := of_decide_eq_false h3
          have hjy : j = y.length := by omega
          refine ⟨((i + 1 : Nat) : Int), wrap_i64 (by omega) (by omega), (i + 1, u), ⟨⟨?_, rfl⟩, rfl, Store.le_refl _⟩, ⟨by show i + 1 ≤ _; omega, ?_⟩, by show told.length - (i + 1) < told.length - i; omega⟩
          · repeat' first | exact trivial | exact rfl | refine And.intro ?_ ?_
          · show u = bs (Lib.join ((told.take (i + 1)).map Li.cellT) [32, 124, 32])
            rw [hu, hjy, inI_all, hup, ← hb]
    · have hc1 : (s ++ ByteArray.mk #[32, 124, 32]) = bs base := by rw [hs, hb, if_neg i0]; exact bs_app _ _
      refine onE (decide_eq_true (show (i : Int) > 0 by omega)) ⟨by show s.size + (ByteArray.mk #[32, 124, 32]).size ≤ _; rw [c3]; omega, ?_⟩
      refine ⟨Int.natCast_nonneg _, h1, b, o, he, ((hp, y.length, hc) : Hd), hok, hrd, ?_⟩
      by_cases y0 : y = []
      · have hc2 : (s ++ ByteArray.mk #[32, 124, 32]) ++ ByteArray.mk #[45] = bs (base ++ inI y 0) := by
          have : inI y 0 = [45] := if_pos y0
          rw [hc1, this]; exact bs_app _ _
        refine onE (beq_iff_eq.2 (show ((y.length : Nat) : Int) = 0 by rw [y0]; rfl)) ⟨by show ((s ++ ByteArray.mk #[32, 124, 32])).size + (ByteArray.mk #[45]).size ≤ _; rw [hc1, cd, bs_size]; omega, ?_⟩
        obtain ⟨X, hX⟩ : ∃ X : ByteArray, X = ((s ++ ByteArray.mk #[32, 124, 32]) ++ ByteArray.mk #[45]) := ⟨_, rfl⟩
        refine ⟨[], [], Nat × ByteArray, List.range' 27 23, fun z => [(7, rI z.1), (5, .c (.v (.string z.2)))], fun _ => [], fun _ => S, fun z => z.1 ≤ y.length ∧ z.2 = bs (base ++ inI y z.1), fun z => y.length - z.1, ?_⟩
        refine And.intro (Exists.intro (0, ((s ++ ByteArray.mk #[32, 124, 32]) ++ ByteArray.mk #[45])) (And.intro (And.intro (And.intro ?_ rfl) (And.intro rfl (Store.le_refl _))) ⟨Nat.zero_le _, hc2⟩)) ?_
        · repeat' first | exact trivial | exact rfl | refine And.intro ?_ ?_
        rintro ⟨j, u⟩ ⟨hj, hu⟩
        have hj : j ≤ y.length := hj
        have hu : u = bs (base ++ inI y j) := hu
        have huz : u.size ≤ 9200000 := by
          rw [hu, bs_size, List.length_append]
          have := inI_le hyo hy1 j
          omega
        refine ⟨Int.natCast_nonneg _, h1, b, o, he, ((hp, y.length, hc) : Hd), hok, hrd, ?_⟩
        refine And.intro (fun h3 => ?_) (fun h3 => ?_)
        · have h3 : (j : Int) < ((y.length : Nat) : Int) := of_decide_eq_true h3
          obtain ⟨w, hw⟩ : ∃ w, y[j]? = some w := ⟨_, List.getElem?_eq_getElem (by omega)⟩
          obtain ⟨b3, o3, e3, ok3, hr3⟩ := row_at hyr hw
          have hwo := hyo w (List.mem_of_getElem? hw)
          have hwl := text_len hwo
          have hin := inI_more hw
          by_cases j0 : j = 0
          · refine offE (decide_eq_false (show ¬ (j : Int) > 0 by omega)) ?_
            refine ⟨Int.natCast_nonneg _, h1, b, o, he, ((hp, y.length, hc) : Hd), hok, hrd, Int.natCast_nonneg _, h3, b3, o3, e3, w, ok3, hr3, ?_⟩
            refine ⟨⟨_, rfl, rfl, rfl⟩, .inl ⟨_, _, _, rtext_spec S w hwo, fun S6 _ hS6 _ => ?_⟩⟩
            refine ⟨by show u.size + _ ≤ _; rw [bs_size]; omega, ?_⟩
            refine ⟨((j + 1 : Nat) : Int), wrap_i64 (by omega) (by omega), (j + 1, u ++ bs (Li.textW w)), ⟨⟨?_, rfl⟩, rfl, hS6⟩, ⟨by show j + 1 ≤ _; omega, ?_⟩, by show y.length - (j + 1) < y.length - j; omega⟩
            · repeat' first | exact trivial | exact rfl | refine And.intro ?_ ?_
            · show u ++ bs (Li.textW w) = bs (base ++ inI y (j + 1))
              rw [hin, if_pos j0, hu, bs_app, List.append_nil, List.append_assoc]
          · refine onE (decide_eq_true (show (j : Int) > 0 by omega)) ⟨by show u.size + (ByteArray.mk #[32]).size ≤ _; rw [c1]; omega, ?_⟩
            refine ⟨Int.natCast_nonneg _, h1, b, o, he, ((hp, y.length, hc) : Hd), hok, hrd, Int.natCast_nonneg _, h3, b3, o3, e3, w, ok3, hr3, ?_⟩
            refine ⟨⟨_, rfl, rfl, rfl⟩, .inl ⟨_, _, _, rtext_spec S w hwo, fun S6 _ hS6 _ => ?_⟩⟩
            refine ⟨by show (u ++ ByteArray.mk #[32]).size + _ ≤ _; rw [ByteArray.size_append, c1, bs_size]; omega, ?_⟩
            refine ⟨((j + 1 : Nat) : Int), wrap_i64 (by omega) (by omega), (j + 1, u ++ ByteArray.mk #[32] ++ bs (Li.textW w)), ⟨⟨?_, rfl⟩, rfl, hS6⟩, ⟨by show j + 1 ≤ _; omega, ?_⟩, by show y.length - (j + 1) < y.length - j; omega⟩
            · repeat' first | exact trivial | exact rfl | refine And.intro ?_ ?_
            · show u ++ bs [32] ++ bs (Li.textW w) = bs (base ++ inI y (j + 1))
              rw [hin, if_neg j0, hu, bs_app, bs_app, List.append_assoc, List.append_assoc, List.append_assoc]
        · have h3 : ¬ (j : Int) < ((y.length : Nat) : Int) := of_decide_eq_false h3
          have hjy : j = y.length := by omega
          refine ⟨((i + 1 : Nat) : Int), wrap_i64 (by omega) (by omega), (i + 1, u), ⟨⟨?_, rfl⟩, rfl, Store.le_refl _⟩, ⟨by show i + 1 ≤ _; omega, ?_⟩, by show told.length - (i + 1) < told.length - i; omega⟩
          · repeat' first | exact trivial | exact rfl | refine And.intro ?_ ?_
          · show u = bs (Lib.join ((told.take (i + 1)).map Li.cellT) [32, 124, 32])
            rw [hu, hjy, inI_all, hup, ← hb]
      · have hc2 : (s ++ ByteArray.mk #[32, 124, 32]) = bs (base ++ inI y 0) := by
          have : inI y 0 = [] := by unfold inI; rw [if_neg y0]; rfl
          rw [this, List.append_nil]; exact hc1
        refine offE (beq_eq_false_iff_ne.2 (show ¬ ((y.length : Nat) : Int) = 0 from fun e => y0 (List.eq_nil_of_length_eq_zero (by omega)))) ?_
        obtain ⟨X, hX⟩ : ∃ X : ByteArray, X = (s ++ ByteArray.mk #[32, 124, 32]) := ⟨_, rfl⟩
        refine ⟨[], [], Nat × ByteArray, List.range' 27 23, fun z => [(7, rI z.1), (5, .c (.v (.string z.2)))], fun _ => [], fun _ => S, fun z => z.1 ≤ y.length ∧ z.2 = bs (base ++ inI y z.1), fun z => y.length - z.1, ?_⟩
        refine And.intro (Exists.intro (0, (s ++ ByteArray.mk #[32, 124, 32])) (And.intro (And.intro (And.intro ?_ rfl) (And.intro rfl (Store.le_refl _))) ⟨Nat.zero_le _, hc2⟩)) ?_
        · repeat' first | exact trivial | exact rfl | refine And.intro ?_ ?_
        rintro ⟨j, u⟩ ⟨hj, hu⟩
        have hj : j ≤ y.length := hj
        have hu : u = bs (base ++ inI y j) := hu
        have huz : u.size ≤ 9200000 := by
          rw [hu, bs_size, List.length_append]
          have := inI_le hyo hy1 j
          omega
        refine ⟨Int.natCast_nonneg _, h1, b, o, he, ((hp, y.length, hc) : Hd), hok, hrd, ?_⟩
        refine And.intro (fun h3 => ?_) (fun h3 => ?_)
        · have h3 : (j : Int) < ((y.length : Nat) : Int) := of_decide_eq_true h3
          obtain ⟨w, hw⟩ : ∃ w, y[j]? = some w := ⟨_, List.getElem?_eq_getElem (by omega)⟩
          obtain ⟨b3, o3, e3, ok3, hr3⟩ := row_at hyr hw
          have hwo := hyo w (List.mem_of_getElem? hw)
          have hwl := text_len hwo
          have hin := inI_more hw
          by_cases j0 : j = 0
          · refine offE (decide_eq_false (show ¬ (j : Int) > 0 by omega)) ?_
            refine ⟨Int.natCast_nonneg _, h1, b, o, he, ((hp, y.length, hc) : Hd), hok, hrd, Int.natCast_nonneg _, h3, b3, o3, e3, w, ok3, hr3, ?_⟩
            refine ⟨⟨_, rfl, rfl, rfl⟩, .inl ⟨_, _, _, rtext_spec S w hwo, fun S6 _ hS6 _ => ?_⟩⟩
            refine ⟨by show u.size + _ ≤ _; rw [bs_size]; omega, ?_⟩
            refine ⟨((j + 1 : Nat) : Int), wrap_i64 (by omega) (by omega), (j + 1, u ++ bs (Li.textW w)), ⟨⟨?_, rfl⟩, rfl, hS6⟩, ⟨by show j + 1 ≤ _; omega, ?_⟩, by show y.length - (j + 1) < y.length - j; omega⟩
            · repeat' first | exact trivial | exact rfl | refine And.intro ?_ ?_
            · show u ++ bs (Li.textW w) = bs (base ++ inI y (j + 1))
              rw [hin, if_pos j0, hu, bs_app, List.append_nil, List.append_assoc]
          · refine onE (decide_eq_true (show (j : Int) > 0 by omega)) ⟨by show u.size + (ByteArray.mk #[32]).size ≤ _; rw [c1]; omega, ?_⟩
            refine ⟨Int.natCast_nonneg _, h1, b, o, he, ((hp, y.length, hc) : Hd), hok, hrd, Int.natCast_nonneg _, h3, b3, o3, e3, w, ok3, hr3, ?_⟩
            refine ⟨⟨_, rfl, rfl, rfl⟩, .inl ⟨_, _, _, rtext_spec S w hwo, fun S6 _ hS6 _ => ?_⟩⟩
            refine ⟨by show (u ++ ByteArray.mk #[32]).size + _ ≤ _; rw [ByteArray.size_append, c1, bs_size]; omega, ?_⟩
            refine ⟨((j + 1 : Nat) : Int), wrap_i64 (by omega) (by omega), (j + 1, u ++ ByteArray.mk #[32] ++ bs (Li.textW w)), ⟨⟨?_, rfl⟩, rfl, hS6⟩, ⟨by show j + 1 ≤ _; omega, ?_⟩, by show y.length - (j + 1) < y.length - j; omega⟩
            · repeat' first | exact trivial | exact rfl | refine And.intro ?_ ?_
            · show u ++ bs [32] ++ bs (Li.textW w) = bs (base ++ inI y (j + 1))
              rw [hin, if_neg j0, hu, bs_app, bs_app, List.append_assoc, List.append_assoc, List.append_assoc]
        · have h3 : ¬ (j : Int) < ((y.length : Nat) : Int) := of_decide_eq_false h3
          have hjy : j = y.length := by omega
          refine ⟨((i + 1 : Nat) : Int), wrap_i64 (by omega) (by omega), (i + 1, u), ⟨⟨?_, rfl⟩, rfl, Store.le_refl _⟩, ⟨by show i + 1 ≤ _; omega, ?_⟩, by show told.length - (i + 1) < told.length - i; omega⟩
          · repeat' first | exact trivial | exact rfl | refine And.intro ?_ ?_
          · show u = bs (Lib.join ((told.take (i + 1)).map Li.cellT) [32, 124, 32])
            rw [hu, hjy, inI_all, hup, ← hb]
  · have h1 : ¬ (i : Int) < ((told.length : Nat) : Int) := of_decide_eq_false h1
    have hil : i = told.length := by omega
    rw [hil, List.take_length] at hs
    obtain ⟨A, hA⟩ : ∃ A, A = Lib.join (told.map Li.cellT) [32, 124, 32] := ⟨_, rfl⟩
    rw [← hA] at hs
    have hAl : A.length = s.size := by rw [hs, bs_size]
    refine ⟨by show s.size + (ByteArray.mk #[32, 58]).size ≤ _; rw [c2]; omega, ?_⟩
    refine ⟨[], [], Nat × ByteArray, List.range' 52 14, fun z => [(8, rI z.1), (5, .c (.v (.string z.2)))], fun _ => [], fun _ => S, fun z => z.1 ≤ ws.length ∧ z.2 = bs (A ++ [32, 58] ++ (ws.take z.1).flatMap fun w => 32 :: Li.textW w), fun z => ws.length - z.1, ?_⟩
    refine And.intro (Exists.intro (0, s ++ ByteArray.mk #[32, 58]) (And.intro (And.intro (And.intro ?_ rfl) (And.intro rfl (Store.le_refl _))) ⟨Nat.zero_le _, ?_⟩)) ?_
    · repeat' first | exact trivial | exact rfl | refine And.intro ?_ ?_
    · show s ++ bs [32, 58] = bs (A ++ [32, 58] ++ [])
      rw [hs, bs_app, List.append_nil]
    rintro ⟨j, u⟩ ⟨hj, hu⟩
    have hj : j ≤ ws.length := hj
    have hu : u = bs (A ++ [32, 58] ++ (ws.take j).flatMap fun w => 32 :: Li.textW w) := hu
    have huz : u.size ≤ 8200000 := by
      rw [hu, bs_size, List.length_append, List.length_append]
      have := fl_le hpo hw8 j
      simp only [List.length_cons, List.length_nil]
      omega
    refine And.intro (fun h3 => ?_) (fun h3 => ?_)
    · have h3 : (j : Int) < ((ws.length : Nat) : Int) := of_decide_eq_true h3
      obtain ⟨w, hw⟩ : ∃ w, ws[j]? = some w := ⟨_, List.getElem?_eq_getElem (by omega)⟩
      obtain ⟨b3, o3, e3, ok3, hr3⟩ := row_at hpr hw
      have hwo := hpo w (List.mem_of_getElem? hw)
      have hwl := text_len hwo
      refine ⟨by show u.size + (ByteArray.mk #[32]).size ≤ _; rw [c1]; omega, Int.natCast_nonneg _, h3, b3, o3, e3, w, ok3, hr3, ?_⟩
      refine ⟨⟨_, rfl, rfl, rfl⟩, .inl ⟨_, _, _, rtext_spec S w hwo, fun S6 _ hS6 _ => ?_⟩⟩
      refine ⟨by show (u ++ ByteArray.mk #[32]).size + _ ≤ _; rw [ByteArray.size_append, c1, bs_size]; omega, ?_⟩
      refine ⟨((j + 1 : Nat) : Int), wrap_i64 (by omega) (by omega), (j + 1, u ++ ByteArray.mk #[32] ++ bs (Li.textW w)), ⟨⟨?_, rfl⟩, rfl, hS6⟩, ⟨by show j + 1 ≤ _; omega, ?_⟩, by show ws.length - (j + 1) < ws.length - j; omega⟩
      · repeat' first | exact trivial | exact rfl | refine And.intro ?_ ?_
      · show u ++ bs [32] ++ bs (Li.textW w) = bs (A ++ [32, 58] ++ (ws.take (j + 1)).flatMap fun w => 32 :: Li.textW w)
        rw [List.take_add_one, hw, List.flatMap_append, hu, bs_app, bs_app]
        simp
    · have h3 : ¬ (j : Int) < ((ws.length : Nat) : Int) := of_decide_eq_false h3
      have hjw : j = ws.length := by omega
      rw [hjw, List.take_length, hA] at hu
      refine ⟨rfl, (), ?_, trivial⟩
      show rS (bs (Li.textO told ws)) = rS u
      rw [hu]; rfl
end Go.Proofs.YtapblcfbmaikjaaGreatDoor
