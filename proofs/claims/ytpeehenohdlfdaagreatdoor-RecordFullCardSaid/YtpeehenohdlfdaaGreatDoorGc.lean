/- law57: the law Full. -/
import Derived.Test.YtpeehenohdlfdaaGreatDoorFz
import Derived.Test.YtpeehenohdlfdaaGreatDoorPd
namespace Go.Proofs.YtpeehenohdlfdaaGreatDoor
open Go Go.Vc
set_option maxRecDepth 100000
set_option maxHeartbeats 8000000

theorem law_full (S : Store) (hL : Lt S) (b : Int) (hb : 0 ≤ b ∧ b ≤ 255) : Pure Tryz.prog 7 S [.int .u8 b] (A := Unit) (fun _ => rB true) (fun _ _ => True) := by
  obtain ⟨k, hk6, hk⟩ : ∃ k : Nat, k < 6 ∧ b % 6 = (k : Int) := ⟨(b % 6).toNat, by omega, by omega⟩
  have htm : Int.tmod b 6 = (k : Int) := by rw [Int.tmod_eq_emod_of_nonneg hb.1, hk]
  refine pure_vc agrees Tryz.func7 rfl rfl (fun S S' q hle h => h) ?_
  refine ⟨by decide, (k : Int), htm, (k : Int), wrap_i64 (by omega) (by omega), ((1018 + k : Nat) : Int), wrap_i64 (by omega) (by omega), ?_⟩
  refine ⟨[], [], Nat × Hx × Store, [12] ++ List.range' 19 68, fun a => [(18, rI a.1)], fun a => [.box [.v (slV a.2.1.1), .v (.map a.2.1.2.1), .v (.map a.2.1.2.2)]], fun a => a.2.2,
    fun a => a.1 ≤ 1018 + k ∧ S.le a.2.2 ∧ HIs a.2.2 a.2.1 (List.replicate a.1 Rc.crash), fun a => 1018 + k - a.1, ?_⟩
  refine And.intro (Exists.intro (0, ((none, 0, 0), none, none), S) (And.intro (And.intro (And.intro ?_ rfl) (And.intro rfl (Store.le_refl _))) ⟨Nat.zero_le _, Store.le_refl _, h_nil S⟩)) ?_
  · repeat' first | exact trivial | exact rfl | refine And.intro ?_ ?_
  rintro ⟨i, x, Sa⟩ ⟨hi, hSa, hx⟩
  have hi : i ≤ 1018 + k := hi
  have hSa : S.le Sa := hSa
  have hx : HIs Sa x (List.replicate i Rc.crash) := hx
  refine And.intro (fun h => ?_) (fun h => ?_)
  · have hil : i < 1018 + k := by
      have : ((i : Nat) : Int) < ((1018 + k : Nat) : Int) := of_decide_eq_true h
      omega
    refine ⟨⟨_, rfl, rfl, rfl⟩, .inl ⟨_, _, _, crash_spec Sa x _ hx, fun S1 z hS1 hz => ?_⟩⟩
    refine ⟨((i + 1 : Nat) : Int), wrap_i64 (by omega) (by omega), (i + 1, z, S1), ⟨⟨?_, rfl⟩, rfl, Store.le_refl _⟩, ⟨hil, Store.le_trans hSa hS1, ?_⟩, by show 1018 + k - (i + 1) < 1018 + k - i; omega⟩
    · repeat' first | exact trivial | exact rfl | refine And.intro ?_ ?_
    · have := Rc.crash_step (i := i) (by omega)
      rw [this] at hz; exact hz
  have hil : i = 1018 + k := by
    have : ¬ ((i : Nat) : Int) < ((1018 + k : Nat) : Int) := of_decide_eq_false h
    omega
  clear h hi
  subst hil
  rw [← Rc.full_zero] at hx
  refine ⟨[], [], Nat × Hx × Int × Store, [7, 8] ++ List.range' 24 64, fun a => [(5, rI a.2.2.1), (6, rI ((1018 + k + a.1 : Nat) : Int))], fun a => [.box [.v (slV a.2.1.1), .v (.map a.2.1.2.1), .v (.map a.2.1.2.2)]], fun a => a.2.2.2,
    fun a => a.1 ≤ 12 - k ∧ S.le a.2.2.2 ∧ HIs a.2.2.2 a.2.1 (Rc.fullL (1018 + k) a.1) ∧ (a.1 = 12 - k → a.2.2.1 ≠ 0), fun a => 12 - k - a.1, ?_⟩
  refine And.intro (Exists.intro (0, x, 0, Sa) (And.intro (And.intro (And.intro ?_ rfl) (And.intro rfl (Store.le_refl _))) ⟨Nat.zero_le _, hSa, hx, fun q => by exfalso; have q : 0 = 12 - k := q; omega⟩)) ?_
  · repeat' first | exact trivial | exact rfl | refine And.intro ?_ ?_
  rintro ⟨j, y, e, Sb⟩ ⟨hj, hSb, hy, he⟩
  have hj : j ≤ 12 - k := hj
  have hSb : S.le Sb := hSb
  have hy : HIs Sb y (Rc.fullL (1018 + k) j) := hy
  have he : j = 12 - k → e ≠ 0 := he
  have tmod8 : ∀ n : Nat, Int.tmod ((n : Nat) : Int) 8 = ((n % 8 : Nat) : Int) := fun n => by rw [Int.tmod_eq_emod_of_nonneg (by omega)]; omega
  have w8 : ∀ n : Nat, IntKind.i64.wrap (1 + ((n % 8 : Nat) : Int)) = 1 + ((n % 8 : Nat) : Int) := fun n => wrap_i64 (by omega) (by omega)
  have i8 : ∀ n : Nat, inI64 (1 + ((n % 8 : Nat) : Int)) := fun n => ⟨by show -9223372036854775808 ≤ _; omega, by show _ ≤ 9223372036854775807; omega⟩
  refine And.intro (fun h => ?_) (fun h => ?_)
  · have hjl : j < 12 - k := by
      have : ((1018 + k + j : Nat) : Int) < 1030 := of_decide_eq_true h
      omega
    refine ⟨by decide, ((((1018 + k + j) % 8 : Nat)) : Int), tmod8 _, 1 + (((1018 + k + j) % 8 : Nat) : Int), w8 _, ?_⟩
    refine ⟨⟨_, rfl, rfl, rfl⟩, .inl ⟨_, _, _, call_spec Sb y _ hy (1 + (((1018 + k + j) % 8 : Nat) : Int)) ((1018 + k + j : Nat) : Int) (i8 _) ⟨by show -9223372036854775808 ≤ _; omega, by show _ ≤ 9223372036854775807; omega⟩ [97] (by decide) (none, 0, 0) [] (ns_nil _) (by decide), fun S1 z hS1 hz => ?_⟩⟩
    obtain ⟨hz1, hz2⟩ := hz
    have hr : HIs S1 z.1 (Rc.fullL (1018 + k) (j + 1)) ∧ (z.2 == 0) = decide (((1018 + k + j : Nat) : Int) < 1024) ∧ (j + 1 = 12 - k → z.2 ≠ 0) := by
      by_cases hs : k + j < 6
      · have hc := Rc.full_call hk6 hs
        have e1 := congrArg Prod.fst hc
        have e2 := congrArg Prod.snd hc
        refine ⟨(show HIs S1 z.1 ((Rc.fullL (1018 + k) (j + 1), (0 : Int)).1) from e1 ▸ hz1), ?_, fun q => by exfalso; omega⟩
        rw [show z.2 = 0 from hz2.trans e2, decide_eq_true (show ((1018 + k + j : Nat) : Int) < 1024 by omega)]; rfl
      · have hc := Rc.full_no (n := 1018 + k) (j := j) (by omega) (by omega) (Rc.callE (1018 + k + j)).t (Rc.callE (1018 + k + j)).n [97] []
        have h0 : z.2 ≠ 0 := fun q => hc.2 (hz2.symm.trans q)
        refine ⟨by rw [← hc.1]; exact hz1, ?_, fun _ => h0⟩
        rw [beq_eq_false_iff_ne.2 h0, decide_eq_false (show ¬ ((1018 + k + j : Nat) : Int) < 1024 by omega)]
    refine offE (by show (!((z.2 == 0) == decide (((1018 + k + j : Nat) : Int) < 1024))) = false; rw [hr.2.1]; cases decide (((1018 + k + j : Nat) : Int) < 1024) <;> rfl) ?_
    refine ⟨((1018 + k + (j + 1) : Nat) : Int), wrap_i64 (by omega) (by omega), (j + 1, z.1, z.2, S1), ⟨⟨?_, rfl⟩, rfl, Store.le_refl _⟩, ⟨hjl, Store.le_trans hSb hS1, hr.1, hr.2.2⟩, by show 12 - k - (j + 1) < 12 - k - j; omega⟩
    repeat' first | exact trivial | exact rfl | refine And.intro ?_ ?_
  have hjl : j = 12 - k := by
    have : ¬ ((1018 + k + j : Nat) : Int) < 1030 := of_decide_eq_false h
    omega
  clear h hj
  have he0 : e ≠ 0 := he hjl
  subst hjl
  have hlen := Rc.full_end hk6
  refine ⟨by decide, ((((1018 + k) % 8 : Nat)) : Int), tmod8 _, 1 + (((1018 + k) % 8 : Nat) : Int), w8 _, ?_⟩
  refine ⟨⟨_, rfl, rfl, rfl⟩, .inl ⟨_, _, _, answer_spec Sb y _ hy (1 + (((1018 + k) % 8 : Nat) : Int)) 0 0 (i8 _) ⟨by decide, by decide⟩ ⟨by decide, by decide⟩, fun S1 z1 hS1 hz1 => ?_⟩⟩
  have hz1 : z1.2 = 9 := hz1.2.trans (Rc.full_answer hk6 0 0)
  refine ⟨by decide, ((((1018 + k) % 8 : Nat)) : Int), tmod8 _, 1 + (((1018 + k) % 8 : Nat) : Int), w8 _, ?_⟩
  refine ⟨⟨_, rfl, rfl, rfl⟩, .inl ⟨_, _, _, commit_spec S1 y _ (hy.le hS1) (1 + (((1018 + k) % 8 : Nat) : Int)) (i8 _), fun S2 z2 hS2 hz2 => ?_⟩⟩
  have hz2 : z2.2 = 9 := hz2.2.trans (Rc.full_commit hk6)
  refine onE (bne_iff_ne.2 he0) (onE (beq_iff_eq.2 hz1) (onE (beq_iff_eq.2 hz2) ?_))
  have hS12 := Store.le_trans hS1 hS2
  refine ⟨⟨_, rfl, rfl, rfl⟩, .inl ⟨_, _, _, events_spec S2 y _ (hy.le hS12), fun S3 q3 hS3 hq3 => ?_⟩⟩
  have hl3 := li_len hq3
  refine onE (beq_iff_eq.2 (by show ((q3.2.1 : Nat) : Int) = 1024; omega)) ?_
  refine ⟨⟨_, rfl, rfl, rfl⟩, .inl ⟨_, _, _, crash_spec S3 y _ (hy.le (Store.le_trans hS12 hS3)), fun S4 y4 hS4 hy4 => ?_⟩⟩
  rw [Rc.full_crash hk6] at hy4
  refine ⟨⟨_, rfl, rfl, rfl⟩, .inl ⟨_, _, _, events_spec S4 y4 _ hy4, fun S5 q5 hS5 hq5 => ?_⟩⟩
  have hl5 := li_len hq5
  refine onE (beq_iff_eq.2 (by show ((q5.2.1 : Nat) : Int) = 1024; omega)) ?_
  exact ⟨⟨_, rfl, rfl, rfl⟩, .inl ⟨_, _, _, awake_spec S5 (hL.le (Store.le_trans hSb (Store.le_trans hS12 (Store.le_trans hS3 (Store.le_trans hS4 hS5))))), fun S6 _ hS6 _ => ⟨rfl, (), rfl, trivial⟩⟩⟩
end Go.Proofs.YtpeehenohdlfdaaGreatDoor
