/- law16, LeakMends: the law says true. -/
import Derived.Test.YtmkbaeilfejbjaaDoorGf
import Derived.Test.YtmkbaeilfejbjaaDoorFk
namespace Go.Proofs.YtmkbaeilfejbjaaDoor
open Go Go.Vc
set_option maxRecDepth 100000

theorem offE {b : Bool} {p q : Prop} (hb : b = false) (h : q) : (b = true → p) ∧ (b = false → q) := ⟨fun e => Bool.noConfusion (hb.symm.trans e), fun _ => h⟩
theorem less_none {a b : List Int} (h : ∀ x ∈ a, x ∈ b) : lessOf a b = [] := by
  rw [lessOf_rising, List.filter_eq_nil_iff.2]
  · rfl
  · intro x hx
    simp [h x hx]

/-- What is marked. -/
theorem marked_markW (b : Nat) (hb : b ≤ 64) (w : List Wd) (hw : 138 ≤ w.length) (u : List Int) (hu : ∀ x ∈ u, 0 ≤ x) (i : Nat) (hi : i < b) : marked (markW b w u) i = decide ((i : Int) ∈ u) := by
  have hl : 136 + i / 32 < (markW b w u).length := by rw [markW_length]; omega
  obtain ⟨x, hx⟩ : ∃ x, (markW b w u)[136 + i / 32]? = some x := ⟨_, List.getElem?_eq_getElem hl⟩
  have hx1 : x.1 = (mask u (i / 32) : Int) := bitsW_get (b := b) (w := w) (f := fun d => (mask u d : Int)) (d := i / 32) (by omega) hx
  unfold marked
  rw [hx]
  show (bitAnd .i64 x.1 ((2 ^ (i % 32) : Nat) : Int) != 0) = _
  rw [hx1, bitAnd_nat _ _ (mask_lt _ _) (by omega), mask_bit u hu]
theorem mem_usedW {b : Nat} {w : List Wd} {x : Int} : x ∈ usedW b w ↔ ∃ i : Nat, x = i ∧ i < b ∧ marked w i = true := by
  unfold usedW
  rw [List.mem_map]
  constructor
  · rintro ⟨i, h, rfl⟩
    rw [List.mem_filter, List.mem_range] at h
    exact ⟨i, rfl, h.1, h.2⟩
  · rintro ⟨i, rfl, h1, h2⟩
    exact ⟨i, by rw [List.mem_filter, List.mem_range]; exact ⟨h1, h2⟩, rfl⟩
theorem usedW_pair (b : Nat) (w : List Wd) : (usedW b w).Pairwise (· < ·) := by
  unfold usedW
  rw [List.pairwise_map]
  exact ((List.pairwise_lt_range (n := b)).filter _).imp fun h => by omega
theorem usedW_markW (b : Nat) (hb : b ≤ 64) (w : List Wd) (hw : 138 ≤ w.length) (u : List Int) (hu : ∀ x ∈ u, 0 ≤ x ∧ x < b) : usedW b (markW b w u) = rising u := by
  refine strict_ext (usedW_pair _ _) (rising_strict u) fun y => ?_
  rw [mem_usedW, mem_rising]
  constructor
  · rintro ⟨i, rfl, h1, h2⟩
    rw [marked_markW b hb w hw u (fun x hx => (hu x hx).1) i h1] at h2
    exact of_decide_eq_true h2
  · intro h
    obtain ⟨h1, h2⟩ := hu y h
    refine ⟨y.toNat, by omega, by omega, ?_⟩
    rw [marked_markW b hb w hw u (fun x hx => (hu x hx).1) _ (by omega)]
    exact decide_eq_true (by rw [show ((y.toNat : Nat) : Int) = y by omega]; exact h)

set_option maxHeartbeats 4000000 in
theorem law_mends (S : Store) (hS : S.rd 0 0 sizesL) (k : Int) (hk : 0 ≤ k ∧ k ≤ 255) (p q : Hd) (u v : List Int) (hl : u.length = p.2.1) (hr : RowRd S p.1 shI u) (hm : v.length = q.2.1) (hr' : RowRd S q.1 shI v) :
    Pure Tryd.prog 3 S [.int .u8 k, slV p, slV q] rB (fun _ x => x = true) := by
  refine pure_vc agrees Tryd.func3 rfl rfl (fun S S' q hle h => h) ?_
  obtain ⟨p, n, c⟩ := p
  obtain ⟨q, m, d⟩ := q
  simp only at hl hr hm hr'
  subst hl
  subst hm
  refine And.intro (fun h0 => ?_) (fun h0 => ?_)
  · exact onT ⟨⟨_, rfl, rfl, rfl⟩, .inl ⟨_, _, _, awake_spec S, fun S1 x hS1 hx => ⟨rfl, x, rfl, hx⟩⟩⟩
  refine And.intro (fun h1 => ?_) (fun h1 => ?_)
  · exact ⟨⟨_, rfl, rfl, rfl⟩, .inl ⟨_, _, _, awake_spec S, fun S1 x hS1 hx => ⟨rfl, x, rfl, hx⟩⟩⟩
  have hul : u.length ≤ 64 := by have : ¬ ((u.length : Nat) : Int) > 64 := of_decide_eq_false h0; omega
  have hvl : v.length ≤ 64 := by have : ¬ ((v.length : Nat) : Int) > 64 := of_decide_eq_false h1; omega
  have hmod : k.tmod 64 = k % 64 := Int.tmod_eq_emod_of_nonneg hk.1
  obtain ⟨b, hbd⟩ : ∃ b, b = 1 + k % 64 := ⟨_, rfl⟩
  have hb : 1 ≤ b ∧ b ≤ 64 := by omega
  refine ⟨by decide, k % 64, hmod, k % 64, wrap_i64 (by omega) (by omega), b, by rw [hbd]; exact wrap_i64 (by omega) (by omega), or3_4, [], oF3_4, by kernel_rfl, ?_⟩
  refine ⟨⟨_, rfl, rfl, rfl⟩, .inl ⟨_, _, _, first_spec S b hb hS, fun S1 x hS1 hx => ?_⟩⟩
  obtain ⟨⟨fp, fn, fc⟩, w0⟩ := x
  obtain ⟨hx1, -, hx3, hx4⟩ := hx
  simp only at hx1 hx3 hx4
  subst hx1
  refine ⟨⟨_, rfl, rfl, rfl⟩, .inl ⟨_, _, _, mark_spec S1 b hb (Store.rd_le hS1 hS) (fp, w0.length, fc) (p, u.length, c) w0 u rfl hx4 (by omega) rfl (hr.le hS1) (by omega) (by omega), fun S2 x hS2 hx => ?_⟩⟩
  obtain ⟨⟨wp, wn, wc⟩, e, w⟩ := x
  obtain ⟨hx1, hx2, hx3⟩ := hx
  simp only at hx1 hx2 hx3
  subst hx1
  have h2 := Store.le_trans hS1 hS2
  refine And.intro (fun h => ?_) (fun h => ?_)
  · exact ⟨⟨_, rfl, rfl, rfl⟩, .inl ⟨_, _, _, awake_spec S2, fun S1 x hS1 hx => ⟨rfl, x, rfl, hx⟩⟩⟩
  have hug : u.any (bad b) = false := by
    cases hu : u.any (bad b) with
    | false => rfl
    | true => rw [hu] at hx3; have h : (e != 0) = false := h; rw [hx3.1] at h; exact absurd h (by decide)
  have hug' : ∀ x ∈ u, 0 ≤ x ∧ x < b := fun x hx => by
    have := List.any_eq_false.1 hug x hx
    simp only [bad, Bool.or_eq_true, decide_eq_true_eq, not_or] at this
    omega
  rw [hug] at hx3
  obtain ⟨rfl, rfl⟩ := hx3
  have hwl : (markW b.toNat w0 u).length = w0.length := markW_length _ _ _
  refine ⟨⟨_, rfl, rfl, rfl⟩, .inl ⟨_, _, _, mend_spec S2 b hb (Store.rd_le h2 hS) (wp, (markW b.toNat w0 u).length, wc) (q, v.length, d) (markW b.toNat w0 u) v rfl hx2 (by omega) rfl (hr'.le h2) (by omega) (by omega), fun S3 x hS3 hx => ?_⟩⟩
  obtain ⟨⟨xp, xn, xc⟩, ⟨lp, ln, lc⟩, f, xw, ll⟩ := x
  obtain ⟨⟨hx5, hx6⟩, ⟨hx7, hx8⟩, hx9⟩ := hx
  simp only at hx5 hx6 hx7 hx8 hx9
  subst hx5
  subst hx7
  have h3 := Store.le_trans h2 hS3
  refine ⟨[], [], Nat, List.range' 13 400, fun x => [(13, rB (!(v.take x).any (bad b))), (14, rI x)], fun x => [.box [.v (.int .i64 1), .v (.int .i64 8), .v (.int .i64 b)]], fun x => S3, fun x => x ≤ v.length, fun x => v.length - x, ?_⟩
  refine And.intro (Exists.intro 0 (And.intro (And.intro (And.intro ?_ rfl) (And.intro rfl (Store.le_refl _))) (Nat.zero_le _))) ?_
  · repeat' first | exact trivial | exact rfl | refine And.intro ?_ ?_
  refine fun i hi => ?_
  have hi : i ≤ v.length := hi
  refine And.intro (fun h => ?_) (fun h => ?_)
  · have hil : i < v.length := by have : ((i : Nat) : Int) < ((v.length : Nat) : Int) := of_decide_eq_true h; omega
    have hx : v[i]? = some v[i] := List.getElem?_eq_getElem hil
    obtain ⟨x, hxx⟩ : ∃ x, v[i] = x := ⟨_, rfl⟩
    rw [hxx] at hx
    have hnext : (!(v.take (i + 1)).any (bad b)) = ((!(v.take i).any (bad b)) && !(bad b x)) := by
      rw [List.take_add_one, hx, List.any_append]
      simp
    obtain ⟨b1, o, hp, hok, hrd⟩ := row_at (hr'.le h3) hx
    refine ⟨or3_12, [], oF3_12, by kernel_rfl, ?_⟩
    have hw1 : IntKind.i64.wrap ((i : Int) + 1) = ((i + 1 : Nat) : Int) := wrap_i64 (by omega) (by omega)
    have i0 : (0 : Int) ≤ ((i : Nat) : Int) := Int.natCast_nonneg _
    have i1 : ((i : Nat) : Int) < ((v.length : Nat) : Int) := by omega
    have hme : v.length - (i + 1) < v.length - i := by omega
    refine And.intro (fun h1 => ?_) (fun h1 => ?_)
    · have h1 : (!(v.take i).any (bad b)) = true := h1
      rw [h1, Bool.true_and] at hnext
      refine ⟨i0, i1, b1, o, hp, x, trivial, hrd, And.intro (fun h2 => ?_) (fun h2 => ?_)⟩
      · have hn : (!(v.take (i + 1)).any (bad b)) = decide (x < b) := by
          have h2 : decide (x ≥ 0) = true := h2
          have h2 := of_decide_eq_true h2
          rw [hnext, bad, decide_eq_false (show ¬ x < 0 by omega)]
          by_cases h : x < b
          · rw [decide_eq_true h, decide_eq_false (show ¬ x ≥ b by omega)]; rfl
          · rw [decide_eq_false h, decide_eq_true (show x ≥ b by omega)]; rfl
        refine ⟨i0, i1, b1, o, hp, x, trivial, hrd, _, hw1, i + 1, ⟨⟨?_, rfl⟩, rfl, Store.le_refl _⟩, hil, hme⟩
        repeat' first | exact trivial | exact rfl | (show leSV (rB (decide (x < b))) (rB (!(v.take (i + 1)).any (bad b))); rw [hn]; exact rfl) | refine And.intro ?_ ?_
      · have hn : (!(v.take (i + 1)).any (bad b)) = false := by
          have h2 : decide (x ≥ 0) = false := h2
          have h2 := of_decide_eq_false h2
          rw [hnext, bad, decide_eq_true (show x < 0 by omega)]; rfl
        refine ⟨_, hw1, i + 1, ⟨⟨?_, rfl⟩, rfl, Store.le_refl _⟩, hil, hme⟩
        repeat' first | exact trivial | exact rfl | (show leSV (rB false) (rB (!(v.take (i + 1)).any (bad b))); rw [hn]; exact rfl) | refine And.intro ?_ ?_
    · have hn : (!(v.take (i + 1)).any (bad b)) = false := by
        have h1 : (!(v.take i).any (bad b)) = false := h1
        rw [hnext, h1]; rfl
      refine onF ⟨_, hw1, i + 1, ⟨⟨?_, rfl⟩, rfl, Store.le_refl _⟩, hil, hme⟩
      repeat' first | exact trivial | exact rfl | (show leSV (rB false) (rB (!(v.take (i + 1)).any (bad b))); rw [hn]; exact rfl) | refine And.intro ?_ ?_
  have hiv : i = v.length := by have : ¬ ((i : Nat) : Int) < ((v.length : Nat) : Int) := of_decide_eq_false h; omega
  subst hiv
  rw [List.take_length]
  cases hvb : v.any (bad b) with
  | true =>
    rw [hvb, if_pos rfl] at hx9
    obtain ⟨rfl, rfl, rfl⟩ := Prod.mk.inj hx9 |>.imp id Prod.mk.inj
    refine onF (onT ?_)
    have hw : 144 + 32 * b ≤ ((markW b.toNat w0 u).length : Int) := by omega
    have hR3 := Store.rd_le h3 hS
    refine ⟨or3_16, [], oF3_16, by kernel_rfl, ?_⟩
    refine onE rfl (onE rfl (onE (beq_self_eq_true _) ?_))
    refine ⟨⟨_, rfl, rfl, rfl⟩, .inl ⟨_, _, _, used_spec S3 b hb hR3 (xp, (markW b.toNat w0 u).length, xc) (markW b.toNat w0 u) rfl hx6 (by omega) hw, fun S4 y hS4 hy => ?_⟩⟩
    refine ⟨⟨_, rfl, rfl, rfl⟩, .inl ⟨_, _, _, used_spec S4 b hb (Store.rd_le hS4 hR3) (wp, (markW b.toNat w0 u).length, wc) (markW b.toNat w0 u) rfl (hx2.le (Store.le_trans hS3 hS4)) (by omega) hw, fun S5 z hS5 hz => ?_⟩⟩
    have hul2 := usedW_length b.toNat (markW b.toNat w0 u)
    refine ⟨⟨_, rfl, rfl, rfl⟩, .inl ⟨_, _, _, same_spec S5 y z (usedW b.toNat (markW b.toNat w0 u)) (usedW b.toNat (markW b.toNat w0 u)) hy.1.symm (hy.2.le hS5) hz.1.symm hz.2 (by omega), fun S6 a hS6 ha => ?_⟩⟩
    refine onE (by rw [show a = _ from ha]; exact decide_eq_true rfl) ?_
    exact ⟨⟨_, rfl, rfl, rfl⟩, .inl ⟨_, _, _, awake_spec S6, fun S1 x hS1 hx => ⟨rfl, x, rfl, hx⟩⟩⟩
  | false =>
    have hvg : ∀ x ∈ v, 0 ≤ x ∧ x < b := fun x hx => by
      have := List.any_eq_false.1 hvb x hx
      simp only [bad, Bool.or_eq_true, decide_eq_true_eq, not_or] at this
      omega
    rw [hvb, if_neg (by decide)] at hx9
    obtain ⟨rfl, rfl, rfl⟩ := Prod.mk.inj hx9 |>.imp id Prod.mk.inj
    have hxl := markW_length b.toNat (markW b.toNat w0 u) v
    refine onF (onF ?_)
    refine ⟨⟨_, rfl, rfl, rfl⟩, .inl ⟨_, _, _, mend_spec S3 b hb (Store.rd_le h3 hS) (xp, (markW b.toNat (markW b.toNat w0 u) v).length, xc) (q, v.length, d) (markW b.toNat (markW b.toNat w0 u) v) v rfl hx6 (by omega) rfl (hr'.le h3) (by omega) (by omega), fun S4 x hS4 hx => ?_⟩⟩
    obtain ⟨⟨yp, yn, yc⟩, ⟨np, nn, nc⟩, g, yw, nl⟩ := x
    obtain ⟨⟨hy5, hy6⟩, ⟨hy7, hy8⟩, hy9⟩ := hx
    simp only at hy5 hy6 hy7 hy8 hy9
    subst hy5
    subst hy7
    rw [hvb, if_neg (by decide)] at hy9
    obtain ⟨rfl, rfl, rfl⟩ := Prod.mk.inj hy9 |>.imp id Prod.mk.inj
    have h4 := Store.le_trans h3 hS4
    refine ⟨⟨_, rfl, rfl, rfl⟩, .inl ⟨_, _, _, mark_spec S4 b hb (Store.rd_le h4 hS) (wp, (markW b.toNat w0 u).length, wc) (q, v.length, d) (markW b.toNat w0 u) v rfl (hx2.le (Store.le_trans hS3 hS4)) (by omega) rfl (hr'.le h4) (by omega) (by omega), fun S5 x hS5 hx => ?_⟩⟩
    obtain ⟨⟨zp, zn, zc⟩, e, zw⟩ := x
    obtain ⟨hz1, hz2, hz3⟩ := hx
    simp only at hz1 hz2 hz3
    subst hz1
    rw [hvb, if_neg (by decide)] at hz3
    obtain ⟨rfl, rfl⟩ := hz3
    have h5 := Store.le_trans h4 hS5
    generalize hW : markW b.toNat w0 u = W at *
    have hyy : markW b.toNat (markW b.toNat W v) v = markW b.toNat W v := markW_markW _ _ _ _
    rw [hyy] at hy6
    have hnone : lessOf (usedW b.toNat (markW b.toNat W v)) v = [] := by
      refine less_none fun x hx => ?_
      obtain ⟨i, rfl, hi, hmi⟩ := mem_usedW.1 hx
      rw [marked_markW b.toNat (by omega) W (by omega) v (fun x hx => (hvg x hx).1) i hi] at hmi
      exact of_decide_eq_true hmi
    have hyl : (markW b.toNat (markW b.toNat W v) v).length = W.length := by rw [hyy]; exact hxl
    refine offE rfl (offE (by show (((lessOf (usedW b.toNat (markW b.toNat W v)) v).length : Int) != 0) = false; rw [hnone]; rfl) (offE (by show (((markW b.toNat W v).length : Int) != (W.length : Int)) = false; rw [hxl]; exact bne_self_eq_false _) (offE (by show (((markW b.toNat (markW b.toNat W v) v).length : Int) != (W.length : Int)) = false; rw [hyl]; exact bne_self_eq_false _) (offE (by show (((markW b.toNat W v).length : Int) != (W.length : Int)) = false; rw [hxl]; exact bne_self_eq_false _) ?_))))
    refine ⟨[], [], Nat, List.range' 20 400, fun x => [(20, rI x)], fun x => [.box [.v (.int .i64 1), .v (.int .i64 8), .v (.int .i64 b)]], fun x => S5, fun x => x ≤ W.length, fun x => W.length - x, ?_⟩
    refine And.intro (Exists.intro 0 (And.intro (And.intro (And.intro ?_ rfl) (And.intro rfl (Store.le_refl _))) (Nat.zero_le _))) ?_
    · repeat' first | exact trivial | exact rfl | refine And.intro ?_ ?_
    refine fun i hi => ?_
    have hi : i ≤ W.length := hi
    refine And.intro (fun h => ?_) (fun h => ?_)
    · have hil : i < W.length := by have : ((i : Nat) : Int) < ((W.length : Nat) : Int) := of_decide_eq_true h; omega
      have hx : (markW b.toNat W v)[i]? = some (markW b.toNat W v)[i] := List.getElem?_eq_getElem (by omega)
      obtain ⟨x, hxx⟩ : ∃ x, (markW b.toNat W v)[i] = x := ⟨_, rfl⟩
      rw [hxx] at hx
      have hw1 : IntKind.i64.wrap ((i : Int) + 1) = ((i + 1 : Nat) : Int) := wrap_i64 (by omega) (by omega)
      have i0 : (0 : Int) ≤ ((i : Nat) : Int) := Int.natCast_nonneg _
      have hme : W.length - (i + 1) < W.length - i := by omega
      obtain ⟨bx, ox, hpx, hokx, hrdx⟩ := row_at (hx6.le (Store.le_trans hS4 hS5)) hx
      obtain ⟨by', oy, hpy, hoky, hrdy⟩ := row_at (hy6.le hS5) hx
      obtain ⟨bz, oz, hpz, hokz, hrdz⟩ := row_at hz2 hx
      have ix : ((i : Nat) : Int) < (((markW b.toNat W v).length : Nat) : Int) := by omega
      have iy : ((i : Nat) : Int) < (((markW b.toNat (markW b.toNat W v) v).length : Nat) : Int) := by omega
      refine ⟨or3_24, [], oF3_24, by kernel_rfl, i0, ix, bx, ox, hpx, x, hokx, hrdx, i0, ix, bz, oz, hpz, x, hokz, hrdz, offE (by simp) ?_⟩
      refine ⟨i0, iy, by', oy, hpy, x, hoky, hrdy, i0, ix, bx, ox, hpx, x, hokx, hrdx, offE (by simp) ?_⟩
      refine ⟨_, hw1, i + 1, ⟨⟨?_, rfl⟩, rfl, Store.le_refl _⟩, hil, hme⟩
      repeat' first | exact trivial | exact rfl | refine And.intro ?_ ?_
    have hR5 := Store.rd_le h5 hS
    refine ⟨⟨_, rfl, rfl, rfl⟩, .inl ⟨_, _, _, used_spec S5 b hb hR5 (xp, (markW b.toNat W v).length, xc) (markW b.toNat W v) rfl (hx6.le (Store.le_trans hS4 hS5)) (by omega) (by omega), fun S6 y hS6 hy => ?_⟩⟩
    have hU : usedW b.toNat (markW b.toNat W v) = rising v := usedW_markW b.toNat (by omega) W (by omega) v (fun x hx => by have := hvg x hx; omega)
    have hU0 : usedW b.toNat W = rising u := by rw [← hW]; exact usedW_markW b.toNat (by omega) w0 (by omega) u (fun x hx => by have := hug' x hx; omega)
    rw [hU] at hy
    obtain ⟨hy1, hy2⟩ := hy
    have hrl := rising_length v
    have h6 := Store.le_trans h5 hS6
    refine ⟨⟨_, rfl, rfl, rfl⟩, .inl ⟨_, _, _, rising_spec S6 (q, v.length, d) v rfl (hr'.le h6) (by omega), fun S7 z hS7 hz => ?_⟩⟩
    refine ⟨⟨_, rfl, rfl, rfl⟩, .inl ⟨_, _, _, same_spec S7 y z (rising v) (rising v) hy1.symm (hy2.le hS7) hz.1.symm hz.2 (by omega), fun S8 a hS8 ha => ?_⟩⟩
    refine onE (by rw [show a = _ from ha]; exact decide_eq_true rfl) ?_
    have h8 := Store.le_trans h6 (Store.le_trans hS7 hS8)
    refine ⟨⟨_, rfl, rfl, rfl⟩, .inl ⟨_, _, _, ref_less_spec S8 (p, u.length, c) (q, v.length, d) u v rfl (hr.le h8) rfl (hr'.le h8) (by omega) (by omega), fun S9 z hS9 hz => ?_⟩⟩
    have hll : (lessOf (usedW b.toNat W) v).length ≤ 64 := by
      rw [lessOf_rising]
      have h1 := rising_length ((usedW b.toNat W).filter fun n => decide (n ∉ v))
      have h2 := List.length_filter_le (fun n => decide (n ∉ v)) (usedW b.toNat W)
      have h3 := usedW_length b.toNat W
      omega
    have hleq : lessOf (usedW b.toNat W) v = rising (u.filter fun n => decide (n ∉ v)) := by
      rw [lessOf_rising, hU0]
      refine strict_ext (rising_strict _) (rising_strict _) fun y => ?_
      simp only [mem_rising, List.mem_filter]
    refine ⟨⟨_, rfl, rfl, rfl⟩, .inl ⟨_, _, _, same_spec S9 (lp, (lessOf (usedW b.toNat W) v).length, lc) z (lessOf (usedW b.toNat W) v) (rising (u.filter fun n => decide (n ∉ v))) rfl (hx8.le (Store.le_trans (Store.le_trans hS4 (Store.le_trans hS5 hS6)) (Store.le_trans hS7 (Store.le_trans hS8 hS9)))) hz.1.symm hz.2 (by omega), fun S10 a hS10 ha => ?_⟩⟩
    refine onE (by rw [show a = _ from ha]; exact decide_eq_true hleq) ?_
    have h710 := Store.le_trans hS7 (Store.le_trans hS8 (Store.le_trans hS9 hS10))
    have h10 := Store.le_trans h6 h710
    refine ⟨⟨_, rfl, rfl, rfl⟩, .inl ⟨_, _, _, lost_spec S10 y (q, v.length, d) (rising v) v hy1.symm (hy2.le h710) rfl (hr'.le h10) (by omega) (by omega), fun S11 z hS11 hz => ?_⟩⟩
    have e1 : lessOf (rising v) v = [] := less_none fun x hx => mem_rising.1 hx
    refine onE (by rw [show (z.2.1 : Nat) = _ from hz.1, e1]; rfl) ?_
    refine ⟨⟨_, rfl, rfl, rfl⟩, .inl ⟨_, _, _, wild_spec S11 y (q, v.length, d) (rising v) v hy1.symm (hy2.le (Store.le_trans h710 hS11)) rfl (hr'.le (Store.le_trans h10 hS11)) (by omega) (by omega), fun S12 z hS12 hz => ?_⟩⟩
    have e2 : lessOf v (rising v) = [] := less_none fun x hx => mem_rising.2 hx
    refine onE (by rw [show (z.2.1 : Nat) = _ from hz.1, e2]; rfl) ?_
    exact ⟨⟨_, rfl, rfl, rfl⟩, .inl ⟨_, _, _, awake_spec S12, fun S1 x hS1 hx => ⟨rfl, x, rfl, hx⟩⟩⟩
end Go.Proofs.YtmkbaeilfejbjaaDoor
