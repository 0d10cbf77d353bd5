/- law09: the reference's search: grow (43), All (23). -/
import Derived.Test.YtapblcfbmaikjaaGreatDoorHa
namespace Go.Proofs.YtapblcfbmaikjaaGreatDoor
open Go Go.Vc Go.Sort Go.RowKit Go.Maps
set_option maxRecDepth 100000
set_option maxHeartbeats 1000000

theorem putR_len (x : Li.Bs) : ∀ l : List Li.Bs, (Li.putR l x).length ≤ l.length + 1
  | [] => Nat.le_refl _
  | y :: l => by
    have := putR_len x l
    unfold Li.putR
    split
    · show (Li.putR l x).length + 1 ≤ l.length + 1 + 1; omega
    split
    · exact Nat.le_succ _
    · exact Nat.le_refl _
theorem putAll_len : ∀ (xs l : List Li.Bs), (Li.putAll l xs).length ≤ l.length + xs.length
  | [], _ => Nat.le_refl _
  | x :: xs, l => by
    have h1 := putAll_len xs (Li.putR l x)
    have h2 := putR_len x l
    show (Li.putAll (Li.putR l x) xs).length ≤ l.length + (xs.length + 1)
    omega
/-- What the threads before k lead to; what thread k's first choices lead to. -/
def outsC (T : List (List Li.Act)) (f : Nat) (s : Li.St) (k c : Nat) : List Li.Bs := (List.range c).flatMap fun c : Nat => Li.outs T f (Li.stepS T s k c)
def outsK (T : List (List Li.Act)) (f : Nat) (s : Li.St) (k : Nat) : List Li.Bs := (List.range k).flatMap fun k => outsC T f s k (Li.choicesS T s k)
theorem outsC_succ (T : List (List Li.Act)) (f : Nat) (s : Li.St) (k c : Nat) : outsC T f s k (c + 1) = outsC T f s k c ++ Li.outs T f (Li.stepS T s k c) := by
  unfold outsC
  rw [List.range_succ, List.flatMap_append]
  simp
theorem outsK_succ (T : List (List Li.Act)) (f : Nat) (s : Li.St) (k : Nat) : outsK T f s (k + 1) = outsK T f s k ++ outsC T f s k (Li.choicesS T s k) := by
  unfold outsK
  rw [List.range_succ, List.flatMap_append]
  simp
theorem outsC_le (T : List (List Li.Act)) (f : Nat) (s : Li.St) (k : Nat) {c d : Nat} (h : c ≤ d) : (outsC T f s k c).length ≤ (outsC T f s k d).length := by
  induction h with
  | refl => exact Nat.le_refl _
  | step _ ih => rw [outsC_succ, List.length_append]; omega
theorem outsK_le (T : List (List Li.Act)) (f : Nat) (s : Li.St) {c d : Nat} (h : c ≤ d) : (outsK T f s c).length ≤ (outsK T f s d).length := by
  induction h with
  | refl => exact Nat.le_refl _
  | step _ ih => rw [outsK_succ, List.length_append]; omega
theorem outs_eq {T : List (List Li.Act)} {s : Li.St} (h : Li.doneS T s = false) (f : Nat) : Li.outs T (f + 1) s = outsK T f s T.length := by
  show (if Li.doneS T s then [Li.textS s] else (List.range T.length).flatMap fun k => (List.range (Li.choicesS T s k)).flatMap fun c : Nat => Li.outs T f (Li.stepS T s k c)) = _
  rw [if_neg (by rw [h]; decide)]
  rfl
def doneN (T : List (List Li.Act)) (s : Li.St) (k : Nat) : Bool := (List.range k).all fun k => (Li.actAt T s k).isNone
theorem doneN_succ (T : List (List Li.Act)) (s : Li.St) (k : Nat) : doneN T s (k + 1) = (doneN T s k && (Li.actAt T s k).isNone) := by
  unfold doneN
  rw [List.range_succ, List.all_append]; simp
theorem choices_none {T : List (List Li.Act)} {s : Li.St} {k : Nat} (h : Li.actAt T s k = none) : Li.choicesS T s k = 0 := by
  unfold Li.choicesS; rw [h]
theorem step_hs {T : List (List Li.Act)} {s : Li.St} {b : Nat} (h : ∀ l ∈ s.m.ms, l.length ≤ b) (k : Nat) (c : Int) : ∀ l ∈ (Li.stepS T s k c).m.ms, l.length ≤ b + 1 := fun l hl => by
  unfold Li.stepS at hl
  split at hl
  · exact Nat.le_succ_of_le (h l hl)
  · exact do_hist h k _ c l hl
theorem step_tl {T : List (List Li.Act)} {s : Li.St} {b : Nat} (h : ∀ l ∈ s.told, l.length ≤ b) (k : Nat) (c : Int) : ∀ l ∈ (Li.stepS T s k c).told, l.length ≤ b + 1 := fun l hl => by
  unfold Li.stepS at hl
  split at hl
  · exact Nat.le_succ_of_le (h l hl)
  · have hl : l ∈ (if Li.tells _ then s.told.set k (s.told.getD k [] ++ [_]) else s.told) := hl
    split at hl
    · rcases List.mem_or_eq_of_mem_set hl with hl | hl
      · exact Nat.le_succ_of_le (h l hl)
      · rw [hl, List.length_append]
        have : (s.told.getD k []).length ≤ b := by
          by_cases hk : k < s.told.length
          · exact h _ (Li.getD_mem hk)
          · rw [List.getD_eq_getElem?_getD, List.getElem?_eq_none (by omega)]; exact Nat.zero_le _
        show _ + 1 ≤ _; omega
    · exact Nat.le_succ_of_le (h l hl)
theorem few_of {n : Nat} {T : List (List Li.Act)} {s : Li.St} (ho : Li.okS n T s) (hn : n ≤ 8) (hT : T.length ≤ 8) {b : Nat} (hb : b ≤ 10000) (h : ∀ l ∈ s.m.ms, l.length ≤ b) : fewM n s.m := ⟨ho.m, by omega, by rw [ho.vl]; omega, fun l hl => by have := h l hl; omega⟩
theorem rgrow_body {n : Nat} {T : List (List Li.Act)} (hn : n ≤ 8) (hoT : Li.okT n T) (hT : T.length ≤ 8) (h8 : ∀ l ∈ T, l.length ≤ 8) (S : Store) (x : Tz) (hx : ThIs S x.2 T) (z : Rz) (s : Li.St) (hz : RzIs S z s) (b : Nat) (hhs : ∀ l ∈ s.m.ms, l.length ≤ b) (htl : ∀ l ∈ s.told, l.length ≤ b) (ho : Li.okS n T s) (hb : b ≤ 100) (q : Hd) (acc : List Li.Bs) (hq : SsIs S q acc) (hl : acc.length + (Li.outs T (Li.leftS T s) s).length ≤ 1073741824)
    (hrec : ∀ (k : Nat) (a : Li.Act), Li.actAt T s k = some a → ∀ (c : Nat) (S' : Store), ThIs S' x.2 T → ∀ (z' : Rz), RzIs S' z' (Li.stepS T s k (c : Int)) → ∀ (q' : Hd) (acc' : List Li.Bs), SsIs S' q' acc' → acc'.length + (Li.outs T (Li.leftS T (Li.stepS T s k (c : Int))) (Li.stepS T s k (c : Int))).length ≤ 1073741824 →
      Pure Tryz.prog 43 S' [vT x, vRz z', slV q'] (A := Hd) rSl (fun S'' q'' => SsIs S'' q'' (Li.putAll acc' (Li.outs T (Li.leftS T (Li.stepS T s k (c : Int))) (Li.stepS T s k (c : Int)))))) :
    Pure Tryz.prog 43 S [vT x, vRz z, slV q] (A := Hd) rSl (fun S' q' => SsIs S' q' (Li.putAll acc (Li.outs T (Li.leftS T s) s))) := by
  have hf := few_of ho hn hT (by omega) hhs
  have hdl := ho.dl
  have t1 := hx.len
  have d1 := hz.d.1
  have hzd := hz.d
  have hsteps := fun (S' : Store) (hS : S.le S') => rstep_spec S' x T (hx.le hS) z s (hz.le hS) n hf hn ho hoT hT h8 (fun l h => by have := htl l h; omega)
  have hch := fun (S' : Store) (hS : S.le S') => rchoices_spec S' x T (hx.le hS) z s (hz.le hS) n hf ho hoT hT h8
  have hlast := fun (S' : Store) (hS : S.le S') => rlast_spec S' z.1 z.2.1 z.2.2 s.m n (hz.m.le hS) hf hn
  have hzt := hz.t
  obtain ⟨⟨fp, fn, fc⟩, ⟨tp, tn, tc⟩⟩ := x
  obtain ⟨⟨⟨p, np, pc⟩, ⟨p2, np2, pc2⟩⟩, ⟨dp, dn, dc⟩, ⟨op, on', oc⟩⟩ := z
  have t1 : tn = T.length := t1
  have d1 : dn = s.did.length := d1
  subst t1 d1
  obtain ⟨F, hF⟩ : ∃ F, F = Li.leftS T s - 1 := ⟨_, rfl⟩
  have hsub : ∀ (k : Nat) (a : Li.Act), Li.actAt T s k = some a → Li.doneS T s = false ∧ Li.leftS T s = F + 1 ∧ ∀ c : Int, Li.leftS T (Li.stepS T s k c) = F := fun k a ha => by
    have h1 := Li.left_step ho ha 0
    refine ⟨?_, by omega, fun c => by have := Li.left_step ho ha c; omega⟩
    cases hd : Li.doneS T s with
    | false => rfl
    | true => have := Li.done_iff.1 hd k; rw [this] at ha; cases ha
  have htot : Li.doneS T s = false → 0 < Li.leftS T s → Li.outs T (Li.leftS T s) s = outsK T F s T.length := fun hd hp => by
    have : Li.leftS T s = F + 1 := by omega
    rw [this]; exact outs_eq hd F
  refine pure_vc agrees Tryz.func43 rfl rfl (fun S S' q hle h => h.le hle) ?_
  refine ⟨[], [], Nat × Hd × Store, List.range' 9 38, fun w => [(2, rSl w.2.1), (7, rB (doneN T s w.1)), (8, rI ((w.1 : Int) + 1))], fun _ => [.box [.v (.slice fp fn fc), .v (.slice tp T.length tc)], .box [.v (.slice p np pc), .v (.slice p2 np2 pc2), .v (.slice dp s.did.length dc), .v (.slice op on' oc)]], fun w => w.2.2,
    fun w => w.1 ≤ T.length ∧ S.le w.2.2 ∧ SsIs w.2.2 w.2.1 (Li.putAll acc (outsK T F s w.1)), fun w => T.length - w.1, ?_⟩
  refine And.intro (Exists.intro (0, q, S) (And.intro (And.intro (And.intro ?_ rfl) (And.intro rfl (Store.le_refl _))) ⟨Nat.zero_le _, Store.le_refl _, hq⟩)) ?_
  · repeat' first | exact trivial | exact rfl | refine And.intro ?_ ?_
  rintro ⟨k, q1, S1⟩ ⟨hk, hS1, hq1⟩
  simp only at hk hS1 hq1
  have wk1 : IntKind.i64.wrap ((k : Int) + 1 - 1) = (k : Int) := by rw [wrap_i64 (by omega) (by omega)]; omega
  have wk2 : IntKind.i64.wrap ((k : Int) + 1 + 1) = ((k + 1 : Nat) : Int) + 1 := by rw [wrap_i64 (by omega) (by omega)]; omega
  have k0 : (0 : Int) ≤ (k : Int) := Int.natCast_nonneg _
  refine And.intro (fun h1 => ?_) (fun h1 => ?_)
  · have h1 : (k : Int) + 1 ≤ ((T.length : Nat) : Int) := of_decide_eq_true h1
    have hkT : k < T.length := by omega
    obtain ⟨⟨yp, yn, yc⟩, y, b3, o3, hy, hqy, e3, ok3, r3⟩ := hx.at hkT
    have ey : T.getD k [] = y := by rw [List.getD_eq_getElem?_getD, hy]; rfl
    have hyn : yn = y.length := hqy.len
    subst hyn
    obtain ⟨b1, o1, e1, ok1, r1⟩ := did_at hzd (k := k) (by omega)
    have kd : (k : Int) < ((s.did.length : Nat) : Int) := by omega
    have kt : (k : Int) < ((T.length : Nat) : Int) := by omega
    refine ⟨or43_5, [], oF43_5, by kernel_rfl, ?_⟩
    refine ⟨(k : Int), wk1, (k : Int), wk1, k0, kd, b1, o1, e1, ((s.did.getD k 0 : Nat) : Int), ok1, Store.rd_le hS1 r1, k0, kt, b3, o3, e3, ((yp, y.length, yc) : Hd), ok3, Store.rd_le hS1 r3, ?_⟩
    cases ha : Li.actAt T s k with
    | none =>
      have hle := Li.act_none ha
      rw [ey] at hle
      refine onE (decide_eq_true (show ((s.did.getD k 0 : Nat) : Int) ≥ ((y.length : Nat) : Int) by omega)) ?_
      refine ⟨((k + 1 : Nat) : Int) + 1, wk2, (k + 1, q1, S1), ⟨⟨?_, rfl⟩, rfl, Store.le_refl _⟩, ⟨by show k + 1 ≤ _; omega, hS1, ?_⟩, by show T.length - (k + 1) < T.length - k; omega⟩
      · have hdk : doneN T s k = doneN T s (k + 1) := by rw [doneN_succ, ha]; simp
        repeat' first | exact trivial | exact rfl | exact congrArg rB hdk | refine And.intro ?_ ?_
      · show SsIs S1 q1 (Li.putAll acc (outsK T F s (k + 1)))
        rw [outsK_succ, choices_none ha]
        show SsIs S1 q1 (Li.putAll acc (outsK T F s k ++ []))
        rw [List.append_nil]; exact hq1
    | some a =>
      obtain ⟨-, hd, -, -⟩ := Li.act_some ha
      rw [ey] at hd
      obtain ⟨hdn, hL, hstep⟩ := hsub k a ha
      have htot := htot hdn (by omega)
      refine offE (decide_eq_false (show ¬ ((s.did.getD k 0 : Nat) : Int) ≥ ((y.length : Nat) : Int) by omega)) ?_
      refine ⟨[], [], Nat × Hd × Store, List.range' 31 16, fun w => [(2, rSl w.2.1), (9, rI w.1)], fun _ => [.box [.v (.slice fp fn fc), .v (.slice tp T.length tc)], .box [.v (.slice p np pc), .v (.slice p2 np2 pc2), .v (.slice dp s.did.length dc), .v (.slice op on' oc)]], fun w => w.2.2,
        fun w => w.1 ≤ Li.choicesS T s k ∧ S.le w.2.2 ∧ SsIs w.2.2 w.2.1 (Li.putAll acc (outsK T F s k ++ outsC T F s k w.1)), fun w => Li.choicesS T s k - w.1, ?_⟩
      refine And.intro (Exists.intro (0, q1, S1) (And.intro (And.intro (And.intro ?_ rfl) (And.intro rfl (Store.le_refl _))) ⟨Nat.zero_le _, hS1, ?_⟩)) ?_
      · repeat' first | exact trivial | exact rfl | refine And.intro ?_ ?_
      · show SsIs S1 q1 (Li.putAll acc (outsK T F s k ++ []))
        rw [List.append_nil]; exact hq1
      rintro ⟨c, q2, S2⟩ ⟨hc, hS2, hq2⟩
      simp only at hc hS2 hq2
      refine ⟨⟨_, rfl, rfl, rfl⟩, .inl ⟨_, _, _, hch S2 hS2 k a ha, fun S3 _ hS3 _ => ?_⟩⟩
      have hS03 := Store.le_trans hS2 hS3
      have hcb : Li.choicesS T s k ≤ 100000 := by
        unfold Li.choicesS
        rw [ha]
        show (if _ then _ else _) ≤ _
        split
        · have : (Li.hist s.m a.loc.toNat).length ≤ 100000 := by
            unfold Li.hist
            by_cases hlo : a.loc.toNat < s.m.ms.length
            · have := hhs _ (Li.getD_mem (d := []) hlo); omega
            · rw [List.getD_eq_getElem?_getD, List.getElem?_eq_none (by omega)]; exact Nat.zero_le _
          exact Nat.le_trans (Nat.sub_le _ _) this
        · decide
      refine And.intro (fun g1 => ?_) (fun g1 => ?_)
      · have g1 : (c : Int) < ((Li.choicesS T s k : Nat) : Int) := of_decide_eq_true g1
        have hcc : c < Li.choicesS T s k := by omega
        refine ⟨or43_10, [], oF43_10, by kernel_rfl, ?_⟩
        refine ⟨⟨_, rfl, rfl, rfl⟩, .inl ⟨_, _, _, hsteps S3 hS03 k a ha (c : Int) ⟨by omega, by omega⟩, fun S4 z4 hS4 hz4 => ?_⟩⟩
        obtain ⟨⟨⟨r1', r2, r3'⟩, ⟨r4, r5, r6⟩⟩, ⟨r7, r8, r9⟩, ⟨r10, r11, r12⟩⟩ := z4
        have hS04 := Store.le_trans hS03 hS4
        have hlen : (Li.putAll acc (outsK T F s k ++ outsC T F s k c)).length + (Li.outs T (Li.leftS T (Li.stepS T s k (c : Int))) (Li.stepS T s k (c : Int))).length ≤ 1073741824 := by
          rw [hstep]
          have h1 := putAll_len (outsK T F s k ++ outsC T F s k c) acc
          rw [List.length_append] at h1
          have h2 := outsC_le T F s k (show c + 1 ≤ Li.choicesS T s k by omega)
          rw [outsC_succ, List.length_append] at h2
          have h3 := outsK_le T F s (show k + 1 ≤ T.length by omega)
          rw [outsK_succ, List.length_append] at h3
          rw [htot] at hl
          omega
        refine ⟨⟨_, rfl, rfl, rfl⟩, .inl ⟨_, _, _, hrec k a ha c S4 (hx.le hS04) _ hz4 q2 _ (hq2.le (Store.le_trans hS3 hS4)) hlen, fun S5 q5 hS5 hq5 => ?_⟩⟩
        obtain ⟨q51, q52, q53⟩ := q5
        refine ⟨((c + 1 : Nat) : Int), wrap_i64 (by omega) (by omega), (c + 1, (q51, q52, q53), S5), ⟨⟨?_, rfl⟩, rfl, Store.le_refl _⟩, ⟨hcc, Store.le_trans hS04 hS5, ?_⟩, by show _ - (c + 1) < _ - c; omega⟩
        · repeat' first | exact trivial | exact rfl | refine And.intro ?_ ?_
        · show SsIs S5 (q51, q52, q53) (Li.putAll acc (outsK T F s k ++ outsC T F s k (c + 1)))
          rw [hstep, ← Li.putAll_app, List.append_assoc, ← outsC_succ] at hq5
          exact hq5
      · have g1 : ¬ (c : Int) < ((Li.choicesS T s k : Nat) : Int) := of_decide_eq_false g1
        have hcc : c = Li.choicesS T s k := by omega
        subst hcc
        refine ⟨((k + 1 : Nat) : Int) + 1, wk2, (k + 1, q2, S3), ⟨⟨?_, rfl⟩, rfl, Store.le_refl _⟩, ⟨by show k + 1 ≤ _; omega, hS03, ?_⟩, by show T.length - (k + 1) < T.length - k; omega⟩
        · have hdk : false = doneN T s (k + 1) := by rw [doneN_succ, ha]; simp
          repeat' first | exact trivial | exact rfl | exact congrArg rB hdk | refine And.intro ?_ ?_
        · show SsIs S3 q2 (Li.putAll acc (outsK T F s (k + 1)))
          rw [outsK_succ]; exact hq2.le hS3
  · have h1 : ¬ (k : Int) + 1 ≤ ((T.length : Nat) : Int) := of_decide_eq_false h1
    have hkT : k = T.length := by omega
    subst hkT
    have hdN : doneN T s T.length = Li.doneS T s := rfl
    cases hd : Li.doneS T s with
    | true =>
      have hout := Li.outs_done (Li.done_iff.1 hd) (Li.leftS T s)
      have hK : outsK T F s T.length = [] := by
        unfold outsK
        rw [List.flatMap_eq_nil_iff]
        intro k hk
        rw [choices_none (Li.done_iff.1 hd k)]; rfl
      rw [hK] at hq1
      refine onE (hdN.trans hd) ?_
      refine ⟨or43_12, [], oF43_12, by kernel_rfl, ?_⟩
      refine ⟨⟨_, rfl, rfl, rfl⟩, .inl ⟨_, _, _, hlast S1 hS1, fun S2 q2 hS2 hq2 => ?_⟩⟩
      have hS02 := Store.le_trans hS1 hS2
      obtain ⟨q21, q22, q23⟩ := q2
      have hll : (Li.lasts s.m).length ≤ 8 := by unfold Li.lasts; rw [List.length_map, ho.m.len]; exact hn
      refine ⟨⟨_, rfl, rfl, rfl⟩, .inl ⟨_, _, _, rtexto_spec S2 (op, on', oc) (q21, q22, q23) s.told (Li.lasts s.m) (hzt.le hS02) (wt_of hq2) (by rw [ho.tl]; exact hT) (fun l h => by have := htl l h; omega) hll, fun S3 _ hS3 _ => ?_⟩⟩
      refine ⟨⟨_, rfl, rfl, rfl⟩, .inl ⟨_, _, _, rput_spec S3 q1 acc (Li.textS s) (hq1.le (Store.le_trans hS2 hS3)) (by omega), fun S4 q4 hS4 hq4 => ⟨rfl, q4, rfl, ?_⟩⟩⟩
      rw [hout]
      exact hq4
    | false =>
      refine offE (hdN.trans hd) ⟨rfl, q1, rfl, ?_⟩
      have hp : 0 < Li.leftS T s := by
        refine Nat.pos_of_ne_zero fun h0 => ?_
        have := Li.done_iff.2 (Li.left_zero ho h0)
        rw [hd] at this; cases this
      rw [htot hd hp]
      exact hq1
theorem rgrow_spec {n : Nat} {T : List (List Li.Act)} (hn : n ≤ 8) (hoT : Li.okT n T) (hT : T.length ≤ 8) (h8 : ∀ l ∈ T, l.length ≤ 8) : ∀ (f : Nat) (S : Store) (x : Tz) (_ : ThIs S x.2 T) (z : Rz) (s : Li.St) (_ : RzIs S z s) (b : Nat) (_ : ∀ l ∈ s.m.ms, l.length ≤ b) (_ : ∀ l ∈ s.told, l.length ≤ b) (_ : Li.okS n T s) (_ : Li.leftS T s ≤ f) (_ : b + f ≤ 100) (q : Hd) (acc : List Li.Bs) (_ : SsIs S q acc) (_ : acc.length + (Li.outs T (Li.leftS T s) s).length ≤ 1073741824),
    Pure Tryz.prog 43 S [vT x, vRz z, slV q] (A := Hd) rSl (fun S' q' => SsIs S' q' (Li.putAll acc (Li.outs T (Li.leftS T s) s))) := by
  intro f
  induction f with
  | zero =>
    intro S x hx z s hz b hhs htl ho hf hb q acc hq hl
    refine rgrow_body hn hoT hT h8 S x hx z s hz b hhs htl ho (by omega) q acc hq hl ?_
    intro k a ha
    have := Li.left_step ho ha 0
    omega
  | succ f ih =>
    intro S x hx z s hz b hhs htl ho hf hb q acc hq hl
    refine rgrow_body hn hoT hT h8 S x hx z s hz b hhs htl ho (by omega) q acc hq hl ?_
    intro k a ha c S' hx' z' hz' q' acc' hq' hl'
    have := Li.left_step ho ha (c : Int)
    exact ih S' x hx' z' _ hz' (b + 1) (step_hs hhs k _) (step_tl htl k _) (Li.step_ok hoT ho k _) (by omega) (by omega) q' acc' hq' hl'
theorem ss_nil (S : Store) : SsIs S (none, 0, 0) [] := ⟨rfl, Nat.le_refl _, .inl rfl, fun x hx => by cases hx⟩
theorem rall_spec (S : Store) (x : Tz) (first : List Li.Wd) (T : List (List Li.Act)) (hx : TestIs S x first T) (hg : Li.Good first T) : Pure Tryz.prog 23 S [vT x] (A := Hd) rSl (fun S' q => SsIs S' q (Li.putAll [] (Li.allT first T))) := by
  have hT1 := hg.t1
  have hn0 := hg.f1
  have hf4 := hg.f4
  have ht4 := hg.t4
  have h6 := hg.six
  have hbg := rbegin_spec S x first T hx (by omega) (by omega) (by omega) (by omega)
  have hlf : Li.leftS T (Li.beginS first T) ≤ 6 := Nat.le_trans (left_size T _) hg.sz
  have hol : (Li.outs T (Li.leftS T (Li.beginS first T)) (Li.beginS first T)).length ≤ 1073741824 := by
    have h2 : (Li.allT first T).length ≤ 32 ^ Li.leftS T (Li.beginS first T) := outs_len T hg.t4 _ _ 1 (fun h hh => by
      obtain ⟨w, -, rfl⟩ := List.mem_map.1 hh
      exact Nat.le_refl _) (by omega)
    have h3 : 32 ^ Li.leftS T (Li.beginS first T) ≤ 32 ^ 6 := Nat.pow_le_pow_right (by decide) hlf
    have h4 : (32 : Nat) ^ 6 = 1073741824 := by decide
    exact Nat.le_trans h2 (by omega)
  have hgr := fun (S' : Store) (hS : S.le S') (z : Rz) (hz : RzIs S' z (Li.beginS first T)) => rgrow_spec (n := first.length) (T := T) (by omega) hg.ok (by omega) (fun l hl => by have := h6 l hl; omega) 6 S' x (hx.t.le hS) z (Li.beginS first T) hz 1
    (fun l hl => by
      obtain ⟨w, -, rfl⟩ := List.mem_map.1 hl
      exact Nat.le_refl _)
    (fun l hl => by
      have hl : l ∈ List.replicate T.length ([] : List Li.Wd) := hl
      rw [(List.mem_replicate.1 hl).2]; exact Nat.zero_le _) (Li.begin_ok first T) hlf (by omega) (none, 0, 0) [] (ss_nil S') (by rw [List.length_nil]; omega)
  obtain ⟨⟨fp, fn, fc⟩, ⟨p, n, c⟩⟩ := x
  refine pure_vc agrees Tryz.func23 rfl rfl (fun S S' q hle h => h.le hle) ?_
  refine ⟨or23_1, [], oF23_1, by kernel_rfl, ?_⟩
  refine ⟨⟨_, rfl, rfl, rfl⟩, .inl ⟨_, _, _, hbg, fun S1 z hS1 hz => ?_⟩⟩
  have hgz := hgr S1 hS1 z hz
  obtain ⟨⟨⟨z1, z2, z3⟩, ⟨z4, z5, z6⟩⟩, ⟨z7, z8, z9⟩, ⟨z10, z11, z12⟩⟩ := z
  exact ⟨⟨_, rfl, rfl, rfl⟩, .inl ⟨_, _, _, hgz, fun S2 q hS2 hq => ⟨rfl, q, rfl, hq⟩⟩⟩
end Go.Proofs.YtapblcfbmaikjaaGreatDoor
