/- law57: the law Turns. -/
import Derived.Test.YtpeehenohdlfdaaGreatDoorFz
namespace Go.Proofs.YtpeehenohdlfdaaGreatDoor
open Go Go.Vc
set_option maxRecDepth 100000
set_option maxHeartbeats 8000000

/-- What the law holds while it goes through the events. -/
structure TInv (l : List Rc.Ev) (m6 : List (Int × Int)) (m7 : List (Int × Bool)) (m8 : List (Int × Int)) : Prop where
  o6 : keysOnce (k := shI) m6
  o7 : keysOnce (k := shI) m7
  o8 : keysOnce (k := shI) m8
  op : ∀ t, mget shI m6 t = (Rc.openM l t).map (·.1)
  cm : ∀ t c, Rc.openM l t = some c → (mget shI m7 t).getD false = c.2
  la : ∀ t, (mget shI m8 t).getD 0 = Rc.lastR l t
theorem tinv_nil : TInv [] [] [] [] := ⟨once_nil, once_nil, once_nil, fun _ => rfl, fun _ _ h => (by cases h), fun _ => rfl⟩
theorem tinv_call {l : List Rc.Ev} {m6 m7 m8} (h : TInv l m6 m7 m8) {e : Rc.Ev} (h0 : e.k = 0) : TInv (l ++ [e]) (mset shI m6 e.t e.n) (mset shI m7 e.t false) (mset shI m8 e.t e.n) := by
  refine ⟨once_mset rfl h.o6 _ _, once_mset rfl h.o7 _ _, once_mset rfl h.o8 _ _, fun x => ?_, fun x c hc => ?_, fun x => ?_⟩
  · rw [mget_mset', Rc.openM_snoc, h.op]
    unfold Rc.stepM
    rw [if_neg (show ¬ e.k = 3 by omega)]
    by_cases hx : x = e.t
    · rw [if_pos hx, if_pos hx.symm, if_pos h0]; rfl
    · rw [if_neg hx, if_neg (fun q => hx q.symm)]
  · rw [Rc.openM_snoc] at hc
    unfold Rc.stepM at hc
    rw [if_neg (show ¬ e.k = 3 by omega)] at hc
    rw [mget_mset']
    by_cases hx : x = e.t
    · rw [if_pos hx.symm, if_pos h0] at hc
      rw [if_pos hx, ← Option.some.inj hc]; rfl
    · rw [if_neg (fun q => hx q.symm)] at hc
      rw [if_neg hx]; exact h.cm x c hc
  · rw [mget_mset', Rc.lastR_snoc, ← h.la]
    by_cases hx : x = e.t
    · rw [if_pos hx, if_pos ⟨h0, hx.symm⟩]; rfl
    · rw [if_neg hx, if_neg (fun q => hx q.2.symm)]
theorem tinv_answer {l : List Rc.Ev} {m6 m7 m8} (h : TInv l m6 m7 m8) {e : Rc.Ev} (h0 : e.k = 1) : TInv (l ++ [e]) (mdel shI m6 e.t) m7 m8 := by
  refine ⟨(mget_mdel h.o6 e.t 0).1, h.o7, h.o8, fun x => ?_, fun x c hc => ?_, fun x => ?_⟩
  · rw [(mget_mdel h.o6 e.t x).2, Rc.openM_snoc, h.op]
    unfold Rc.stepM
    rw [if_neg (show ¬ e.k = 3 by omega)]
    by_cases hx : x = e.t
    · rw [if_pos hx, if_pos hx.symm, if_neg (show ¬ e.k = 0 by omega), if_pos h0]; rfl
    · rw [if_neg hx, if_neg (fun q => hx q.symm)]
  · rw [Rc.openM_snoc] at hc
    unfold Rc.stepM at hc
    rw [if_neg (show ¬ e.k = 3 by omega)] at hc
    by_cases hx : x = e.t
    · rw [if_pos hx.symm, if_neg (show ¬ e.k = 0 by omega), if_pos h0] at hc; cases hc
    · rw [if_neg (fun q => hx q.symm)] at hc; exact h.cm x c hc
  · rw [Rc.lastR_snoc, if_neg (fun q => by have := q.1; omega)]; exact h.la x
theorem tinv_commit {l : List Rc.Ev} {m6 m7 m8} (h : TInv l m6 m7 m8) {e : Rc.Ev} (h0 : e.k = 2) : TInv (l ++ [e]) m6 (mset shI m7 e.t true) m8 := by
  refine ⟨h.o6, once_mset rfl h.o7 _ _, h.o8, fun x => ?_, fun x c hc => ?_, fun x => ?_⟩
  · rw [Rc.openM_snoc, h.op]
    unfold Rc.stepM
    rw [if_neg (show ¬ e.k = 3 by omega)]
    by_cases hx : e.t = x
    · rw [if_pos hx, if_neg (show ¬ e.k = 0 by omega), if_neg (show ¬ e.k = 1 by omega), if_pos h0, Option.map_map]; rfl
    · rw [if_neg hx]
  · rw [Rc.openM_snoc] at hc
    unfold Rc.stepM at hc
    rw [if_neg (show ¬ e.k = 3 by omega)] at hc
    rw [mget_mset']
    by_cases hx : x = e.t
    · rw [if_pos hx.symm, if_neg (show ¬ e.k = 0 by omega), if_neg (show ¬ e.k = 1 by omega), if_pos h0] at hc
      obtain ⟨d, -, rfl⟩ := Option.map_eq_some_iff.1 hc
      rw [if_pos hx]; rfl
    · rw [if_neg (fun q => hx q.symm)] at hc
      rw [if_neg hx]; exact h.cm x c hc
  · rw [Rc.lastR_snoc, if_neg (fun q => by have := q.1; omega)]; exact h.la x
theorem tinv_crash {l : List Rc.Ev} {m6 m7 m8} (h : TInv l m6 m7 m8) {e : Rc.Ev} (h0 : e.k = 3) : TInv (l ++ [e]) [] m7 m8 := by
  refine ⟨once_nil, h.o7, h.o8, fun x => ?_, fun x c hc => ?_, fun x => ?_⟩
  · rw [Rc.openM_snoc]; unfold Rc.stepM; rw [if_pos h0]; rfl
  · rw [Rc.openM_snoc] at hc; unfold Rc.stepM at hc; rw [if_pos h0] at hc; cases hc
  · rw [Rc.lastR_snoc, if_neg (fun q => by have := q.1; omega)]; exact h.la x
abbrev Qt := Nat × List (Int × Int) × List (Int × Bool) × List (Int × Int)
theorem law_turns (S : Store) (hL : Lt S) (q : Hd) (acs : List Rc.Ev) (hq : AsRaw S q acs) (hn : acs.length ≤ 1000000000000000) : Pure Tryz.prog 5 S [slV q] (A := Unit) (fun _ => rB true) (fun _ _ => True) := by
  refine pure_vc agrees Tryz.func5 rfl rfl (fun S S' q hle h => h) ?_
  refine ⟨⟨_, rfl, rfl, rfl⟩, .inl ⟨_, _, _, great_spec S q acs hq hn, fun S1 _ hS1 _ => ?_⟩⟩
  refine And.intro (fun hg => ?_) (fun hg => ?_)
  · exact ⟨⟨_, rfl, rfl, rfl⟩, .inl ⟨_, _, _, awake_spec S1 (hL.le hS1), fun S2 _ hS2 _ => ⟨rfl, (), rfl, trivial⟩⟩⟩
  refine ⟨⟨_, rfl, rfl, rfl⟩, .inl ⟨_, _, _, made_spec S1 q acs ((hq.is hg).le hS1) hn, fun S2 z hS2 hz => ?_⟩⟩
  obtain ⟨z1, z2, zb⟩ := z
  obtain ⟨hz1, hz2, hz3⟩ := hz
  have hz1 : HIs S2 z1 (madeR acs) := hz1
  have hz3 : zb = true := hz3
  subst hz3
  have hll := Rc.hist_len hz1.hs
  have hh := hz1.hs
  refine offE rfl ⟨⟨_, rfl, rfl, rfl⟩, .inl ⟨_, _, _, events_spec S2 z1 _ hz1, fun S3 q3 hS3 hq3 => ?_⟩⟩
  have hL3 := hL.le (Store.le_trans hS1 (Store.le_trans hS2 hS3))
  have hn3 := li_len hq3
  generalize madeR acs = l at *
  obtain ⟨p, n, c⟩ := q3
  have hn3 : n = l.length := hn3
  subst hn3
  refine ⟨[], [], Qt, [10, 11, 12] ++ List.range' 31 79, fun a => [(30, rI a.1)], fun a => [.box [.v (slV z1.1), .v (.map z1.2.1), .v (.map z1.2.2)], .map shI shI a.2.1, .map shI .bool a.2.2.1, .map shI shI a.2.2.2], fun _ => S3, fun a => a.1 ≤ l.length ∧ TInv (l.take a.1) a.2.1 a.2.2.1 a.2.2.2, fun a => l.length - a.1, ?_⟩
  refine And.intro (Exists.intro (0, [], [], []) (And.intro (And.intro (And.intro ?_ rfl) (And.intro rfl (Store.le_refl _))) ⟨Nat.zero_le _, tinv_nil⟩)) ?_
  · repeat' first | exact trivial | exact rfl | refine And.intro ?_ ?_
  rintro ⟨i, m6, m7, m8⟩ ⟨hi, hT⟩
  have hi : i ≤ l.length := hi
  have hT : TInv (l.take i) m6 m7 m8 := hT
  have i0 : (0 : Int) ≤ ((i : Nat) : Int) := Int.natCast_nonneg _
  refine And.intro (fun h => ?_) (fun h => ?_)
  · have hil : i < l.length := by
      have : ((i : Nat) : Int) < ((l.length : Nat) : Int) := of_decide_eq_true h
      omega
    clear h
    obtain ⟨x, e, b, o, he, hx, hp, hrd⟩ := ev_at hq3 hil
    have hv := hh i e he
    have htk : l.take (i + 1) = l.take i ++ [e] := by rw [List.take_add_one, he]; rfl
    obtain ⟨xk, xt, xn, xr⟩ := x
    have ek : xk = e.k := hx.k
    have et : xt = e.t := hx.t
    have en : xn = e.n := hx.n
    have wi : IntKind.i64.wrap (((i : Nat) : Int) + 1) = ((i + 1 : Nat) : Int) := wrap_i64 (by omega) (by omega)
    have hmu : l.length - (i + 1) < l.length - i := by omega
    have hop : mget shI m6 xt = (Rc.openM (l.take i) e.t).map (·.1) := by rw [et]; exact hT.op e.t
    have hla : (mget shI m8 xt).getD 0 = Rc.lastR (l.take i) e.t := by rw [et]; exact hT.la e.t
    have hcm : ∀ c, Rc.openM (l.take i) e.t = some c → (mget shI m7 xt).getD false = c.2 := by rw [et]; exact hT.cm e.t
    refine ⟨i0, by show ((i : Nat) : Int) < ((l.length : Nat) : Int); omega, b, o, hp, (xk, xt, xn, xr), okE [(xk, xt, xn, xr)] _ (by simp), hrd, ?_⟩
    refine ⟨xt, 0, rfl, rfl, ?_⟩
    obtain ⟨-, hv⟩ := hv
    rcases hv with ⟨h0, h1, h2, h3, -⟩ | ⟨h0, h1, ⟨cc, h2⟩, -⟩ | ⟨h0, h1, h2, -⟩ | h0
    · rw [h2] at hop
      have hop : mget shI m6 xt = none := hop
      refine onE (beq_iff_eq.2 (show xk = 0 by omega)) ?_
      refine offE (by rw [hop]; rfl) ⟨xt, 0, rfl, rfl, offE (decide_eq_false (by show ¬ xn ≤ (mget shI m8 xt).getD 0; omega)) ?_⟩
      have hTc : TInv (l.take (i + 1)) (mset shI m6 xt xn) (mset shI m7 xt false) (mset shI m8 xt xn) := by
        have := tinv_call hT h0
        rw [← et, ← en] at this
        rw [htk]; exact this
      refine ⟨or5_18, [1, 2, 3], oF5_18, by kernel_rfl, ?_⟩
      repeat' (first | exact trivial | refine ⟨xt, xn, rfl, rfl, trivial, ?_⟩ | refine ⟨xt, false, rfl, rfl, trivial, ?_⟩ | refine And.intro ?_ ?_)
      all_goals
        refine ⟨((i + 1 : Nat) : Int), wi, (i + 1, mset shI m6 xt xn, mset shI m7 xt false, mset shI m8 xt xn), ⟨⟨?_, rfl⟩, rfl, Store.le_refl _⟩, ⟨hil, hTc⟩, hmu⟩
        repeat' first | exact trivial | exact rfl | refine And.intro ?_ ?_
    · rw [h2] at hop
      have hop : mget shI m6 xt = some e.n := hop
      refine offE (beq_eq_false_iff_ne.2 (show ¬ xk = 0 by omega)) (onE (beq_iff_eq.2 (show xk = 1 by omega)) ?_)
      refine offE (by rw [hop]; rfl) (offE (bne_eq_false_iff_eq.2 (by show (mget shI m6 xt).getD 0 = xn; rw [hop, en]; rfl)) ⟨xt, rfl, ?_⟩)
      refine ⟨((i + 1 : Nat) : Int), wi, (i + 1, mdel shI m6 xt, m7, m8), ⟨⟨?_, rfl⟩, rfl, Store.le_refl _⟩, ⟨hil, ?_⟩, hmu⟩
      · repeat' first | exact trivial | exact rfl | refine And.intro ?_ ?_
      · have := tinv_answer hT h0
        rw [← et] at this
        rw [htk]; exact this
    · rw [h2] at hop
      have hop : mget shI m6 xt = some e.n := hop
      have hcm : (mget shI m7 xt).getD false = false := hcm _ h2
      refine offE (beq_eq_false_iff_ne.2 (show ¬ xk = 0 by omega)) (offE (beq_eq_false_iff_ne.2 (show ¬ xk = 1 by omega)) (onE (beq_iff_eq.2 (show xk = 2 by omega)) ?_))
      refine offE (by rw [hop]; rfl) (offE (bne_eq_false_iff_eq.2 (by show (mget shI m6 xt).getD 0 = xn; rw [hop, en]; rfl)) ⟨xt, false, rfl, rfl, offE hcm ⟨xt, true, rfl, rfl, trivial, ?_⟩⟩)
      refine ⟨((i + 1 : Nat) : Int), wi, (i + 1, m6, mset shI m7 xt true, m8), ⟨⟨?_, rfl⟩, rfl, Store.le_refl _⟩, ⟨hil, ?_⟩, hmu⟩
      · repeat' first | exact trivial | exact rfl | refine And.intro ?_ ?_
      · have := tinv_commit hT h0
        rw [← et] at this
        rw [htk]; exact this
    · have ek : xk = 3 := by rw [ek, h0]; rfl
      have et' : xt = 0 := by rw [et, h0]; rfl
      have en' : xn = 0 := by rw [en, h0]; rfl
      refine offE (beq_eq_false_iff_ne.2 (show ¬ xk = 0 by omega)) (offE (beq_eq_false_iff_ne.2 (show ¬ xk = 1 by omega)) (offE (beq_eq_false_iff_ne.2 (show ¬ xk = 2 by omega)) ?_))
      refine offE (bne_eq_false_iff_eq.2 et') (offE (bne_eq_false_iff_eq.2 en') ?_)
      refine ⟨((i + 1 : Nat) : Int), wi, (i + 1, [], m7, m8), ⟨⟨?_, rfl⟩, rfl, Store.le_refl _⟩, ⟨hil, ?_⟩, hmu⟩
      · repeat' first | exact trivial | exact rfl | refine And.intro ?_ ?_
      · have := tinv_crash hT (show e.k = 3 by rw [h0]; rfl)
        rw [htk]; exact this
  · exact ⟨⟨_, rfl, rfl, rfl⟩, .inl ⟨_, _, _, awake_spec S3 hL3, fun S4 _ hS4 _ => ⟨rfl, (), rfl, trivial⟩⟩⟩
end Go.Proofs.YtpeehenohdlfdaaGreatDoor
