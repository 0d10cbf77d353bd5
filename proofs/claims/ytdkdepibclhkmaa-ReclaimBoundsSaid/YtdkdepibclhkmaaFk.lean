/- law15: ReclaimBounds, ReclaimRetires. -/
import Derived.Test.YtdkdepibclhkmaaFj
namespace Go.Proofs.Ytdkdepibclhkmaa
open Go Go.Vc
set_option maxRecDepth 100000

set_option maxHeartbeats 1000000 in
theorem bounds_law (S : Store) (p q o : Hd) (xs : List It) (ann held : List Int) (hl : xs.length = p.2.1) (hr : RowRd S p.1 shT xs) (hm : ann.length = q.2.1) (hr' : RowRd S q.1 shI ann) (ho : held.length = o.2.1) (hr2 : RowRd S o.1 shI held) :
    Pure Try.prog 6 S [slV p, slV q, slV o] rB (fun _ b => b = true) := by
  refine pure_vc agrees Try.func6 rfl rfl (fun S S' q hle h => h) ?_
  refine ⟨⟨_, rfl, rfl, rfl⟩, .inl ⟨_, _, _, few_spec S p q o, fun S1 w hS1 hw => ?_⟩⟩
  have hw : w = (decide (p.2.1 ≤ 100) && decide (q.2.1 ≤ 40) && decide (o.2.1 ≤ 40)) := hw
  refine And.intro (fun h0 => ?_) (fun h0 => ?_)
  · exact ⟨⟨_, rfl, rfl, rfl⟩, .inl ⟨_, _, _, awake_spec S1, fun S2 b hS2 hb => ⟨rfl, _, rfl, hb⟩⟩⟩
  have h0 : (!w) = false := h0
  have hw1 : w = true := by simpa using h0
  rw [hw] at hw1
  simp only [Bool.and_eq_true, decide_eq_true_eq] at hw1
  obtain ⟨⟨n1, n2⟩, n3⟩ := hw1
  refine ⟨⟨_, rfl, rfl, rfl⟩, .inl ⟨_, _, _, bag_spec S1 p xs hl (hr.le hS1) (by omega), fun S2 z hS2 hz => ?_⟩⟩
  obtain ⟨b, l, cs⟩ := z
  have hz : (b.2.1 = (bagOf xs).length ∧ RowRd S2 b.1 shT (bagOf xs)) ∧ l.2.1 = (bagOf xs).length ∧ RowRd S2 l.1 shT (bagOf xs) := hz
  have hbl := bagOf_length xs
  have hgb := good_bag xs
  generalize bagOf xs = B at hz hbl hgb
  obtain ⟨⟨hb1, hb2⟩, hl1, hl2⟩ := hz
  have le12 := Store.le_trans hS1 hS2
  refine ⟨⟨_, rfl, rfl, rfl⟩, .inl ⟨_, _, _, items_spec S2 b B hb1.symm hb2 (by omega), fun S3 u hS3 hu => ?_⟩⟩
  have hu : u.2.1 = B.length ∧ RowRd S3 u.1 shT B := hu
  have le13 := Store.le_trans le12 hS3
  refine ⟨⟨_, rfl, rfl, rfl⟩, .inl ⟨_, _, _, bound_spec S3 q o u ann held B hm (hr'.le le13) ho (hr2.le le13) hu.1.symm hu.2 (by omega) (by omega) (by omega), fun S4 n hS4 hn => ?_⟩⟩
  have hn : n = ((boundOf B ann held : Nat) : Int) := hn
  have le14 := Store.le_trans le13 hS4
  refine ⟨⟨_, rfl, rfl, rfl⟩, .inl ⟨_, _, _, sweep_spec S4 b q o B ann held hb1.symm (hb2.le (Store.le_trans hS3 hS4)) hm (hr'.le le14) ho (hr2.le le14) (by omega) (by omega) (by omega), fun S5 y hS5 hy => ?_⟩⟩
  obtain ⟨k, g⟩ := y
  have hy : (k.2.1 = (keptOf B ann held).length ∧ RowRd S5 k.1 shT (keptOf B ann held)) ∧ g.2.1 = (goneOf B ann held).length ∧ RowRd S5 g.1 shI (sorted (goneOf B ann held)) := hy
  obtain ⟨⟨hk1, hk2⟩, -⟩ := hy
  have le25 := Store.le_trans (Store.le_trans hS3 hS4) hS5
  refine ⟨⟨_, rfl, rfl, rfl⟩, .inl fun p1 c1 S6 hS6 hr6 _ => ⟨_, _, _, sweep_spec S6 b (p1, _, c1) (none, 0, 0) B [0, 0] [] hb1.symm (hb2.le (Store.le_trans le25 hS6)) rfl hr6 rfl ⟨.inl rfl, by simp⟩ (by omega) (by decide) (by decide), fun S7 y hS7 hy => ?_⟩⟩
  obtain ⟨k2, g2⟩ := y
  have hy : (k2.2.1 = (keptOf B [0, 0] []).length ∧ RowRd S7 k2.1 shT (keptOf B [0, 0] [])) ∧ g2.2.1 = (goneOf B [0, 0] []).length ∧ RowRd S7 g2.1 shI (sorted (goneOf B [0, 0] [])) := hy
  rw [kept_none, gone_none] at hy
  obtain ⟨⟨k21, -⟩, g21, -⟩ := hy
  refine ⟨⟨_, rfl, rfl, rfl⟩, .inl ⟨_, _, _, awake_spec S7, fun S8 w hS8 hw => ?_⟩⟩
  have hw : w = true := hw
  refine onE hw ?_
  have le58 := Store.le_trans hS6 (Store.le_trans hS7 hS8)
  have le28 := Store.le_trans le25 le58
  have le18 := Store.le_trans le12 le28
  refine ⟨⟨_, rfl, rfl, rfl⟩, .inl ⟨_, _, _, ref_bound_spec S8 q o l ann held B hm (hr'.le le18) ho (hr2.le le18) hl1.symm (hl2.le le28) (by omega) (by omega) (by omega), fun S9 n2 hS9 hn2 => ?_⟩⟩
  have hn2 : n2 = ((boundOf B ann held : Nat) : Int) := hn2
  refine onE (by rw [hn, hn2]; simp) ?_
  refine ⟨⟨_, rfl, rfl, rfl⟩, .inl ⟨_, _, _, len_spec S9 k, fun S10 a hS10 ha => ?_⟩⟩
  have ha : a = ((k.2.1 : Nat) : Int) := ha
  have hkl := kept_le hgb ann held
  refine onE (by rw [ha, hn, hk1]; exact decide_eq_true (by omega)) ?_
  refine ⟨⟨_, rfl, rfl, rfl⟩, .inl ⟨_, _, _, len_spec S10 k2, fun S11 c hS11 hc => ?_⟩⟩
  have hc : c = ((k2.2.1 : Nat) : Int) := hc
  refine onE (by rw [hc, k21]; rfl) ?_
  refine ⟨⟨_, rfl, rfl, rfl⟩, .inl ⟨_, _, _, len_spec S11 b, fun S12 d hS12 hd => ?_⟩⟩
  have hd : d = ((b.2.1 : Nat) : Int) := hd
  refine ⟨rfl, _, rfl, ?_⟩
  show (((g2.2.1 : Nat) : Int) == d) = true
  rw [hd, g21, hb1]
  simp
end Go.Proofs.Ytdkdepibclhkmaa
