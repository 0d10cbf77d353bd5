/- law57: the law Stays. -/
import Derived.Test.YtpeehenohdlfdaaGreatDoorGe
namespace Go.Proofs.YtpeehenohdlfdaaGreatDoor
open Go Go.Vc
set_option maxRecDepth 100000
set_option maxHeartbeats 8000000

theorem partK_at {ti : TI} {vs : List Value} {o : Nat} {v : Value} {K : SV → Prop} (hs : o + ti.sz ≤ vs.length) (ha : ti.sh.agg = false) (hv : vs[o]? = some v) (h : K (.c (.v v))) : partK ti (vs.map .v) o K := by
  unfold partK
  rw [if_pos (by rw [List.length_map]; exact hs), ha, List.getElem?_map, hv]
  exact h
theorem mask_to {S0 Sl S' S3 : Store} (h0 : S0.le S3) (h : ∀ b, (∀ i, Sl.c b i = none) ∧ Sl.o b = none → (∀ i, S3.c b i = S'.c b i) ∧ S3.o b = S'.o b) : (Store.mask S0 Sl S').le S3 := by
  constructor
  · intro b i x hx
    by_cases hb : Sl.blank b
    · rw [(mask_new hb).1] at hx; rw [(h b hb).1]; exact hx
    · rw [(mask_old hb).1] at hx; exact h0.1 _ _ _ hx
  · intro b x hx
    by_cases hb : Sl.blank b
    · rw [(mask_new hb).2] at hx; rw [(h b hb).2]; exact hx
    · rw [(mask_old hb).2] at hx; exact h0.2 _ _ hx
theorem law_stays (S : Store) (hL : Lt S) (q : Hd) (acs : List Rc.Ev) (hq : AsRaw S q acs) (hn : acs.length ≤ 1000000000000000) (a0 a1 a2 : Int) (ha : ∀ a ∈ [a0, a1, a2], inI64 a) : Pure Tryz.prog 6 S [slV q, .agg #[.int .i64 a0, .int .i64 a1, .int .i64 a2]] (A := Unit) (fun _ => rB true) (fun _ _ => True) := by
  refine pure_vc agrees Tryz.func6 rfl rfl (fun S S' q hle h => h) ?_
  refine ⟨⟨_, rfl, rfl, rfl⟩, .inl ⟨_, _, _, great_spec S q acs hq hn, fun S1 _ hS1 _ => ?_⟩⟩
  refine And.intro (fun hg => ?_) (fun hg => ?_)
  · exact ⟨⟨_, rfl, rfl, rfl⟩, .inl ⟨_, _, _, awake_spec S1 (hL.le hS1), fun S2 _ hS2 _ => ⟨rfl, (), rfl, trivial⟩⟩⟩
  refine ⟨⟨_, rfl, rfl, rfl⟩, .inl ⟨_, _, _, made_spec S1 q acs ((hq.is hg).le hS1) hn, fun S2 z hS2 hz => ?_⟩⟩
  obtain ⟨z1, z2, zb⟩ := z
  obtain ⟨hz1, hz2, hz3⟩ := hz
  have hz1 : HIs S2 z1 (madeR acs) := hz1
  have hz3 : zb = true := hz3
  subst hz3
  have hll := Rc.hist_len hz1.hs
  have hL2 := hL.le (Store.le_trans hS1 hS2)
  generalize madeR acs = l at *
  refine ⟨by decide, by decide, by decide, ?_⟩
  refine ⟨⟨_, rfl, rfl, rfl⟩, .inr (.inr (.inr (.inr (.inr (.inr fun b3 Sl hSl hrd => ?_)))))⟩
  have hrow : RowRd Sl (some ⟨b3, 0, none⟩) shI [a0, a1, a2] := ⟨.inr ⟨b3, 0, rfl, hrd.1⟩, fun _ _ => trivial⟩
  refine ⟨_, _, _, callF_spec S2 Sl hSl z1 l hz1 8 1099511627776 ⟨by decide, by decide⟩ ⟨by decide, by decide⟩ [120, 95, 49] (by decide) (some ⟨b3, 0, none⟩, 3, 3) [a0, a1, a2] ⟨rfl, Nat.le_refl _, hrow, ha⟩ (show 3 ≤ 1000000 by decide), fun S' w hS' hw S3 hS3 hag => ?_⟩
  obtain ⟨w1, w2⟩ := w
  obtain ⟨hw1, hw2⟩ := hw
  have hw1 : HIs S3 w1 (Rc.callR l 8 1099511627776 [120, 95, 49] [a0, a1, a2]).1 := hw1.le (mask_to hS3 hag)
  have hw2 : w2 = (Rc.callR l 8 1099511627776 [120, 95, 49] [a0, a1, a2]).2 := hw2
  have hL3 := hL2.le hS3
  refine offE rfl ?_
  rcases Rc.call_cases l 8 1099511627776 [120, 95, 49] [a0, a1, a2] with hc | hc
  · refine onE (bne_iff_ne.2 (by rw [hw2]; exact hc.2)) ?_
    exact onE rfl ⟨⟨_, rfl, rfl, rfl⟩, .inl ⟨_, _, _, awake_spec S3 hL3, fun S4 _ hS4 _ => ⟨rfl, (), rfl, trivial⟩⟩⟩
  rw [hc] at hw1 hw2
  have hw2 : w2 = 0 := hw2
  have hw1 : HIs S3 w1 (l ++ [⟨0, 8, 1099511627776, [120, 95, 49], [a0, a1, a2], 0, 0⟩]) := hw1
  refine offE (bne_eq_false_iff_eq.2 hw2) ⟨⟨_, rfl, rfl, rfl⟩, .inl ⟨_, _, _, text_spec S3 hL3 w1 _ hw1, fun S4 _ hS4 _ => ?_⟩⟩
  have hw4 := hw1.le hS4
  refine ⟨by decide, by decide, _, rfl, by decide, by decide, ?_⟩
  refine ⟨⟨_, rfl, rfl, rfl⟩, .inr (.inr (.inr (.inr (.inl ⟨_, _, _, _, eventsO_spec S4 w1 l _ hw4 rfl, fun S5 y hS5 hy => ?_⟩))))⟩
  obtain ⟨b, b2, c, c2, vs, vs2, hne, -, -, rfl, hvl, hva, d0, d1, d2, rfl⟩ := hy
  have hw5 := hw4.le hS5
  have wl : IntKind.i64.wrap (((l.length + 1 : Nat) : Int) - 1) = ((l.length : Nat) : Int) := by rw [wrap_i64 (by omega) (by omega)]; omega
  have g1 : ((l.length : Nat) : Int) < ((l.length + 1 : Nat) : Int) := by omega
  have hoff : 0 + Int.toNat ((l.length : Nat) : Int) * 7 + 3 + 1 = l.length * 7 + 4 := by rw [Int.toNat_natCast]; omega
  have hva' : vs[0 + Int.toNat ((l.length : Nat) : Int) * 7 + 3 + 1]? = some (.slice (some ⟨b2, 0, none⟩) 3 c2) := by rw [hoff]; exact hva
  have hbd : 0 + Int.toNat ((l.length : Nat) : Int) * 7 + 3 + 1 + 1 ≤ vs.length := by rw [hoff]; omega
  refine offE (beq_eq_false_iff_ne.2 (by show ¬ ((l.length + 1 : Nat) : Int) = 0; omega)) ⟨_, wl, Int.natCast_nonneg _, g1, b, 0, rfl, .inl ⟨3, vs, none, rfl, partK_at hbd rfl hva' ?_⟩⟩
  refine offE rfl ⟨_, wl, Int.natCast_nonneg _, g1, b, 0, rfl, .inl ⟨3, vs, none, rfl, partK_at hbd rfl hva' ?_⟩⟩
  refine ⟨by decide, by decide, b2, 0, rfl, .inl ⟨4, _, none, rfl, ?_⟩⟩
  refine ⟨_, rfl, by decide, by decide, b2, 0, rfl, 4, _, none, rfl, rfl, by show 0 + 1 * 1 + 1 ≤ 3; decide, ?_⟩
  refine ⟨by decide, by show (0 : Int) < ((l.length + 1 : Nat) : Int); omega, b, 0, rfl, 3, vs, none, rfl, rfl, by show 0 + 0 * 7 + 1 + 1 ≤ vs.length; omega, ?_⟩
  have hne' := pend_last l ⟨0, 8, 1099511627776, [120, 95, 49], [a0, a1, a2], 0, 0⟩ rfl
  refine ⟨⟨_, rfl, rfl, rfl⟩, .inr (.inr (.inr (.inr (.inl ⟨_, _, _, _, pendingO_spec S5 w1 _ hw5 hne', fun S6 y6 hS6 hy6 => ?_⟩))))⟩
  obtain ⟨b6, c6, vs6, -, rfl, hvl6⟩ := hy6
  have hw6 := hw5.le hS6
  have hpos : 0 < (pendI (l ++ [⟨0, 8, 1099511627776, [120, 95, 49], [a0, a1, a2], 0, 0⟩])).length := List.length_pos_iff.2 hne'
  refine offE (beq_eq_false_iff_ne.2 (by show ¬ (((pendI (l ++ [⟨0, 8, 1099511627776, [120, 95, 49], [a0, a1, a2], 0, 0⟩])).length : Nat) : Int) = 0; omega)) ?_
  refine ⟨by decide, by show (0 : Int) < (((pendI (l ++ [⟨0, 8, 1099511627776, [120, 95, 49], [a0, a1, a2], 0, 0⟩])).length : Nat) : Int); omega, b6, 0, rfl, 5, vs6, none, rfl, rfl, by show 0 + 0 * 1 + 1 ≤ vs6.length; omega, ?_⟩
  have hL6 := hL3.le (Store.le_trans hS4 (Store.le_trans hS5 hS6))
  refine ⟨⟨_, rfl, rfl, rfl⟩, .inl ⟨_, _, _, text_spec S6 hL6 w1 _ hw6, fun S7 _ hS7 _ => ?_⟩⟩
  refine onE (isE rfl) ⟨⟨_, rfl, rfl, rfl⟩, .inl ⟨_, _, _, pending_spec S7 w1 _ (hw6.le hS7), fun S8 q8 hS8 hq8 => ?_⟩⟩
  obtain ⟨x0, hx0⟩ : ∃ x0, (pendI (l ++ [⟨0, 8, 1099511627776, [120, 95, 49], [a0, a1, a2], 0, 0⟩]))[0]? = some x0 := ⟨_, List.getElem?_eq_getElem hpos⟩
  have hxn : 0 ≤ x0 := by
    obtain ⟨k, -, rfl⟩ := List.mem_map.1 (List.mem_of_getElem? hx0)
    exact Int.natCast_nonneg _
  have hl8 := hq8.len
  obtain ⟨b8, o8, hp8, hok8, hrd8⟩ := row_at hq8.row hx0
  refine ⟨by decide, by show (0 : Int) < ((q8.2.1 : Nat) : Int); omega, b8, o8, hp8, .inr ⟨x0, trivial, hrd8, ?_⟩⟩
  refine onE (bne_iff_ne.2 (by show ¬ x0 = -7; omega)) ⟨⟨_, rfl, rfl, rfl⟩, .inl ⟨_, _, _, awake_spec S8 (hL6.le (Store.le_trans hS7 hS8)), fun S9 _ hS9 _ => ?_⟩⟩
  exact ⟨rfl, (), rfl, trivial⟩
end Go.Proofs.YtpeehenohdlfdaaGreatDoor
