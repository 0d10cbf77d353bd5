/- law15: ReclaimRetires. -/
import Derived.Test.YtdkdepibclhkmaaFj
namespace Go.Proofs.Ytdkdepibclhkmaa
open Go Go.Vc
set_option maxRecDepth 100000

theorem onF' {b : Bool} {p q : Prop} (hb : b = false) (h : q) : (b = true → p) ∧ (b = false → q) := ⟨fun e => absurd e (by rw [hb]; decide), fun _ => h⟩

set_option maxHeartbeats 1000000 in
theorem retires_law (S : Store) (p : Hd) (xs : List It) (hl : xs.length = p.2.1) (hr : RowRd S p.1 shT xs) :
    Pure Try.prog 3 S [slV p] rB (fun _ b => b = true) := by
  refine pure_vc agrees Try.func3 rfl rfl (fun S S' q hle h => h) ?_
  refine ⟨⟨_, rfl, rfl, rfl⟩, .inl ⟨_, _, _, few_spec S p (none, 0, 0) (none, 0, 0), fun S1 w hS1 hw => ?_⟩⟩
  have hw : w = (decide (p.2.1 ≤ 100) && true && true) := hw
  refine And.intro (fun h0 => ?_) (fun h0 => ?_)
  · exact ⟨⟨_, rfl, rfl, rfl⟩, .inl ⟨_, _, _, awake_spec S1, fun S2 b hS2 hb => ⟨rfl, _, rfl, hb⟩⟩⟩
  have h0 : (!w) = false := h0
  have hw1 : w = true := by simpa using h0
  rw [hw] at hw1
  simp only [decide_eq_true_eq, Bool.and_true] at hw1
  have hn : xs.length ≤ 100 := by omega
  clear hw h0
  refine ⟨[], [], Nat × Hd × Hd × Store, List.range' 5 5 ++ List.range' 17 60, fun z => [(4, .c (.v (slV z.2.2.1))), (16, rI z.1)], fun z => [.box [.v (slV z.2.1)]], fun z => z.2.2.2, fun z => z.1 ≤ xs.length ∧ S.le z.2.2.2 ∧ (z.2.1.2.1 = (bagOf (xs.take z.1)).length ∧ RowRd z.2.2.2 z.2.1.1 shT (bagOf (xs.take z.1))) ∧ z.2.2.1.2.1 = (bagOf (xs.take z.1)).length ∧ RowRd z.2.2.2 z.2.2.1.1 shT (bagOf (xs.take z.1)) ∧ PForm z.2.2.1.1 z.2.2.1.2.1 z.2.2.1.2.2, fun z => xs.length - z.1, ?_⟩
  refine And.intro (Exists.intro (0, (none, 0, 0), (none, 0, 0), S1) (And.intro (And.intro (And.intro ?_ rfl) (And.intro rfl (Store.le_refl _))) ⟨Nat.zero_le _, hS1, ⟨rfl, .inl rfl, by simp [bagOf]⟩, rfl, ⟨.inl rfl, by simp [bagOf]⟩, (.inl ⟨rfl, rfl, rfl⟩)⟩)) ?_
  · repeat' first | exact trivial | exact rfl | refine And.intro ?_ ?_
  rintro ⟨i, q, l, T⟩ ⟨hi, hT, ⟨hql, hqr⟩, hll, hlr, hpf⟩
  simp only at hi hT hql hqr hll hlr hpf
  have i0 : (0 : Int) ≤ ((i : Nat) : Int) := Int.natCast_nonneg _
  refine And.intro (fun h => ?_) (fun h => ?_)
  · have hil : i < xs.length := by
      have : ((i : Nat) : Int) < ((p.2.1 : Nat) : Int) := of_decide_eq_true h
      omega
    have i1 : ((i : Nat) : Int) < ((p.2.1 : Nat) : Int) := by omega
    have hwi : IntKind.i64.wrap (((i : Nat) : Int) + 1) = ((i + 1 : Nat) : Int) := wrap_i64 (by omega) (by omega)
    have hx : xs[i]? = some xs[i] := List.getElem?_eq_getElem hil
    obtain ⟨x, hxx⟩ : ∃ x, xs[i] = x := ⟨_, rfl⟩
    rw [hxx] at hx
    obtain ⟨b1, o, hp, hok, hrd⟩ := row_at (hr.le hT) hx
    have hbl := bagOf_length (xs.take i)
    rw [List.length_take] at hbl
    have hst := bagOf_step hx
    obtain ⟨B, hB⟩ : ∃ B, bagOf (xs.take i) = B := ⟨_, rfl⟩
    rw [hB] at hbl hst hql hqr hll hlr
    refine ⟨i0, i1, b1, o, hp, x, ⟨trivial, trivial, trivial⟩, hrd, ⟨_, rfl, rfl, rfl⟩, .inl ⟨_, _, _, retire_spec T q B x hql.symm hqr (by omega), fun S2 z hS2 hz => ?_⟩⟩
    obtain ⟨z, e⟩ := z
    have hz : (z.2.1 = (retired B x).length ∧ RowRd S2 z.1 shT (retired B x)) ∧ e = wrong B x := hz
    rw [← hst] at hz
    refine ⟨⟨_, rfl, rfl, rfl⟩, .inl ⟨_, _, _, ref_wrong_spec S2 l B x hll.symm (hlr.le hS2) (by omega), fun S3 w hS3 hw => ?_⟩⟩
    have hw : w = wrong B x := hw
    refine And.intro (fun h5 => ?_) (fun _ => ?_)
    · have h5 : (e != w) = true := h5
      rw [hz.2, hw] at h5
      simp at h5
    have le23 := Store.le_trans hS2 hS3
    refine ⟨⟨_, rfl, rfl, rfl⟩, .inl ⟨_, _, _, is_spec S3 q l B B hql.symm (hqr.le le23) hll.symm (hlr.le le23) (by omega), fun S4 t hS4 ht => ?_⟩⟩
    have ht : t = decide (B = B) := ht
    have le24 := Store.le_trans le23 hS4
    refine onF' (by rw [ht]; simp) ?_
    refine And.intro (fun h6 => ?_) (fun h6 => ?_)
    · have h6 : (w == 0) = true := h6
      have hw0 : wrong B x = 0 := by rw [← hw]; simpa using h6
      have hb1 : bagOf (xs.take (i + 1)) = B ++ [x] := by rw [hst, retired, if_pos hw0]
      rw [hb1] at hz
      refine ⟨or3_13, [], oF3_13, by kernel_rfl, ?_⟩
      obtain ⟨lp, ln, lc⟩ := l
      simp only at hll hlr hpf
      subst hll
      have hnc : B.length ≤ lc := by
        rcases hpf with ⟨-, h1, h2⟩ | ⟨g, -, h⟩
        · omega
        · exact h
      refine ⟨Int.natCast_nonneg _, Int.natCast_nonneg _, Nat.zero_le _, Nat.le_refl _, hnc, ?_⟩
      rcases hpf with ⟨h1, h2, h3⟩ | ⟨g, h1, -⟩
      · subst h1
        have hB0 := row_none hlr
        subst hB0
        refine .inl ⟨rfl, [x], ⟨rfl, rfl⟩, fun _ _ => ⟨trivial, trivial, trivial⟩, (show 1 * 24 ≤ 140737488355328 by decide), ?_⟩
        refine ⟨⟨_, rfl, rfl, rfl⟩, .inl fun p1 c1 S5 hS5 hr5 hpf5 => ⟨_, _, _, is_spec S5 z (p1, _, c1) ([x]) ([x]) hz.1.1.symm (hz.1.2.le (Store.le_trans (Store.le_trans hS3 hS4) hS5)) rfl hr5 (by show 1 ≤ 1000; decide), fun S6 t hS6 ht => ?_⟩⟩
        have ht : t = decide ([x] = [x]) := ht
        refine onF' (by rw [ht]; simp) ?_
        refine ⟨((i + 1 : Nat) : Int), hwi, (i + 1, z, (p1, ([x]).length, c1), S6), ⟨⟨?_, rfl⟩, rfl, Store.le_refl _⟩, ⟨hil, Store.le_trans hT (Store.le_trans le24 (Store.le_trans hS5 hS6)), ⟨?_, ?_⟩, ?_, ?_, hpf5⟩, ?_⟩
        · repeat' first | exact trivial | exact rfl | refine And.intro ?_ ?_
        · rw [hb1]; exact hz.1.1
        · rw [hb1]; exact hz.1.2.le (Store.le_trans (Store.le_trans hS3 hS4) (Store.le_trans hS5 hS6))
        · rw [hb1]; rfl
        · rw [hb1]; exact hr5.le hS6
        · show xs.length - (i + 1) < xs.length - i
          omega
      · subst h1
        refine .inr (.inr (.inl ⟨⟨g, 0, none⟩, B.length, B.length, B, [x], ?_, rfl, Nat.le_refl _, Nat.lt_succ_self _, hlr.le le24, ⟨rfl, rfl⟩, fun _ _ => ⟨trivial, trivial, trivial⟩, (show (B.length + 1) * 24 ≤ 140737488355328 by omega), ?_⟩))
        · show Value.slice (if B.length = 0 then some (⟨g, 0, none⟩ : Addr) else some ⟨g, 0, none⟩) B.length B.length = _
          rw [ite_self]
        refine ⟨⟨_, rfl, rfl, rfl⟩, .inl fun p1 c1 S5 hS5 hr5 hpf5 => ⟨_, _, _, is_spec S5 z (p1, _, c1) (B ++ [x]) (B ++ [x]) hz.1.1.symm (hz.1.2.le (Store.le_trans (Store.le_trans hS3 hS4) hS5)) rfl hr5 (by rw [List.length_append]; show B.length + 1 ≤ 1000; omega), fun S6 t hS6 ht => ?_⟩⟩
        have ht : t = decide (B ++ [x] = B ++ [x]) := ht
        refine onF' (by rw [ht]; simp) ?_
        refine ⟨((i + 1 : Nat) : Int), hwi, (i + 1, z, (p1, (B ++ [x]).length, c1), S6), ⟨⟨?_, rfl⟩, rfl, Store.le_refl _⟩, ⟨hil, Store.le_trans hT (Store.le_trans le24 (Store.le_trans hS5 hS6)), ⟨?_, ?_⟩, ?_, ?_, hpf5⟩, ?_⟩
        · repeat' first | exact trivial | exact rfl | refine And.intro ?_ ?_
        · rw [hb1]; exact hz.1.1
        · rw [hb1]; exact hz.1.2.le (Store.le_trans (Store.le_trans hS3 hS4) (Store.le_trans hS5 hS6))
        · rw [hb1]
        · rw [hb1]; exact hr5.le hS6
        · show xs.length - (i + 1) < xs.length - i
          omega
    · have h6 : (w == 0) = false := h6
      have hw0 : ¬ wrong B x = 0 := by rw [← hw]; simpa using h6
      have hb1 : bagOf (xs.take (i + 1)) = B := by rw [hst, retired, if_neg hw0]
      have le45 := Store.le_trans hS3 hS4
      rw [hb1] at hz
      refine ⟨⟨_, rfl, rfl, rfl⟩, .inl ⟨_, _, _, is_spec S4 z l B B hz.1.1.symm (hz.1.2.le le45) hll.symm (hlr.le le24) (by omega), fun S5 t hS5 ht => ?_⟩⟩
      have ht : t = decide (B = B) := ht
      have le25 := Store.le_trans le45 hS5
      refine onF' (by rw [ht]; simp) ?_
      refine ⟨((i + 1 : Nat) : Int), hwi, (i + 1, z, l, S5), ⟨⟨?_, rfl⟩, rfl, Store.le_refl _⟩, ⟨hil, Store.le_trans hT (Store.le_trans le24 hS5), ⟨?_, ?_⟩, ?_, ?_, hpf⟩, ?_⟩
      · repeat' first | exact trivial | exact rfl | refine And.intro ?_ ?_
      · rw [hb1]; exact hz.1.1
      · rw [hb1]; exact hz.1.2.le le25
      · rw [hb1]; exact hll
      · rw [hb1]; exact hlr.le (Store.le_trans le24 hS5)
      · show xs.length - (i + 1) < xs.length - i
        omega
  · have hil : i = xs.length := by
      have : ¬ ((i : Nat) : Int) < ((p.2.1 : Nat) : Int) := of_decide_eq_false h
      omega
    exact ⟨⟨_, rfl, rfl, rfl⟩, .inl ⟨_, _, _, awake_spec T, fun S2 b hS2 hb => ⟨rfl, _, rfl, hb⟩⟩⟩
end Go.Proofs.Ytdkdepibclhkmaa
