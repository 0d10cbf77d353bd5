/- law57: add; Call, Answer, Commit, Crash of the program. -/
import Derived.Test.YtpeehenohdlfdaaGreatDoorFg
namespace Go.Proofs.YtpeehenohdlfdaaGreatDoor
open Go Go.Vc Go.Sort
set_option maxRecDepth 100000
set_option maxHeartbeats 4000000

theorem thread_spec (S : Store) (t : Int) : Pure Tryz.prog 36 S [.int .i64 t] (A := Unit) (fun _ => rB (decide (1 ≤ t ∧ t ≤ 8))) (fun _ _ => True) := by
  refine pure_vc agrees Tryz.func36 rfl rfl (fun S S' q hle h => h) ?_
  by_cases h1 : t ≥ 1
  · refine onE (decide_eq_true h1) ⟨rfl, (), ?_, trivial⟩
    have : decide (1 ≤ t ∧ t ≤ 8) = decide (t ≤ 8) := decide_eq_decide.2 ⟨fun h => h.2, fun h => ⟨h1, h⟩⟩
    rw [this]; rfl
  · refine offE (decide_eq_false h1) ⟨rfl, (), ?_, trivial⟩
    rw [decide_eq_false (show ¬ (1 ≤ t ∧ t ≤ 8) by omega)]; rfl
theorem full_spec (S : Store) (x : Hx) (l : List Rc.Ev) (hx : HIs S x l) : Pure Tryz.prog 38 S [vH x] (A := Unit) (fun _ => rB (decide (1024 ≤ l.length))) (fun _ _ => True) := by
  refine pure_vc agrees Tryz.func38 rfl rfl (fun S S' q hle h => h) ?_
  have hn := li_len hx.ls
  refine ⟨rfl, (), ?_, trivial⟩
  have : decide (1024 ≤ l.length) = decide (((x.1.2.1 : Nat) : Int) ≥ 1024) := decide_eq_decide.2 (by rw [hn]; omega)
  rw [this]; rfl
theorem clone_spec (S : Store) (q : Hd) (ns : List Int) (h : NsIs S q ns) (hn : ns.length ≤ 1000000) : Pure Tryz.prog 39 S [slV q] (A := Hd) (fun q => .c (.v (slV q))) (fun S' q => NsIs S' q ns) := by
  obtain ⟨p, n, c⟩ := q
  have hl : n = ns.length := h.len
  subst hl
  have hr : RowRd S p shI ns := h.row
  refine pure_vc agrees Tryz.func39 rfl rfl (fun S S' q hle h => h.le hle) ?_
  cases hp : p with
  | none =>
    subst hp
    have : ns = [] := by
      rcases hr.1 with e | ⟨b, o, e, -⟩
      · exact e
      · cases e
    subst this
    exact onT ⟨rfl, (none, 0, 0), rfl, ns_nil S⟩
  | some a =>
    subst hp
    refine onF ⟨ns, src_of rfl hr, fun _ _ => trivial, by show (0 + ns.length) * 8 ≤ 140737488355328; omega, ?_⟩
    intro p3 c3 S3 hS3 hr3 hpf3
    exact ⟨rfl, (p3, ([] ++ ns).length, c3), rfl, rfl, pform_le hpf3.1, hr3, h.ins⟩
theorem clip_spec (S : Store) (q : Hd) (xs : List Ex) (hq : q.2.1 ≤ q.2.2) (hl : q.2.1 = xs.length) (hr : RowRd S q.1 shE xs) : Pure Tryz.prog 64 S [slV q] (A := Hd) (fun q => .c (.v (slV q))) (fun S' q => q.2.1 = xs.length ∧ q.2.2 = xs.length ∧ RowRd S' q.1 shE xs) := by
  obtain ⟨p, n, c⟩ := q
  have hl : n = xs.length := hl
  subst hl
  have hr : RowRd S p shE xs := hr
  refine pure_vc agrees Tryz.func64 rfl rfl (fun S S' q hle h => ⟨h.1, h.2.1, h.2.2.le hle⟩) ?_
  refine ⟨Int.natCast_nonneg _, Int.natCast_nonneg _, Nat.zero_le _, Nat.le_refl _, hq, rfl, (p, xs.length, xs.length), ?_, rfl, rfl, hr⟩
  show SV.c (C.v (Value.slice p xs.length xs.length)) = SV.c (C.v (Value.slice (if xs.length = 0 then p else Option.map (fun p => addrAdd p (0 * 7)) p) xs.length xs.length))
  by_cases h0 : xs.length = 0
  · rw [if_pos h0]
  · rw [if_neg h0]
    rcases hr.1 with e | ⟨b, o, rfl, -⟩
    · rw [e] at h0; exact absurd rfl h0
    · rfl
theorem ren_plain (idx : List Nat) (caps : List Value) : (caps.map fun x => SV.c (C.v x)).map (SV.ren idx) = caps.map fun x => SV.c (C.v x) := by rw [List.map_map]; rfl
theorem add_spec (S : Store) (x : Hx) (l : List Rc.Ev) (hx : HIs S x l) (y : Ex) (e : Rc.Ev) (hy : EIs S y e) (v : Value) (hv : ChIs S v l e) (hval : Rc.Valid l e) : Pure Tryz.prog 40 S [vH x, vE y, v] (A := Hx) rH (fun S' x => HIs S' x (l ++ [e])) := by
  obtain ⟨⟨p, n, c⟩, ob, lb⟩ := x
  obtain ⟨g, caps, rfl, hen, hone, hch⟩ := hv
  obtain ⟨⟨L, rfl, hlen, hcap, hr, hK⟩, ⟨om, ho1, ho2, ho3⟩, ⟨lm, hl1, hl2, hl3⟩, hh⟩ := hx
  have hlen : n = L.length := hlen
  subst hlen
  have hcap : L.length ≤ c := hcap
  have hr : RowRd S p shE (L.map (·.1)) := hr
  have h1024 : L.length < 1024 := by have := hval.1; rwa [List.length_map] at this
  obtain ⟨yk, yt, yn, ⟨ynm, yp, yl, yc⟩, ye, yv⟩ := y
  refine pure_vc agrees Tryz.func40 rfl rfl (fun S S' q hle h => h.le hle) ?_
  refine ⟨⟨_, rfl, rfl, rfl⟩, .inr (.inl ⟨[3], _, _, _, _, rfl, copyO_spec S ob om ho1 ho2, fun S1 om1 hS1 h1 => ?_⟩)⟩
  refine ⟨⟨_, rfl, rfl, rfl⟩, .inr (.inl ⟨[4], _, _, _, _, rfl, copyI_spec S1 lb lm (hl1.le hS1) hl2, fun S2 lm1 hS2 h2 => ?_⟩)⟩
  obtain ⟨om2, lm2, a1, a2, a3, a4, hsp⟩ := hch S2 (Store.le_trans hS1 hS2) om1 lm1 h1.1 h2.1 (fun t => (h1.2 t).trans (ho3 t)) (fun t => by rw [h2.2 t]; exact hl3 t)
  rw [← ren_plain [3, 4]] at hsp
  refine ⟨g, #[], caps.toArray, rfl, rfl, (fun u hu => hone u (by simpa using hu)), hen, .inr (.inl ⟨[3, 4], _, _, _, _, rfl, hsp, fun S3 _ hS3 _ => ?_⟩)⟩
  have hr3 : RowRd S3 p shE (L.map (·.1)) := hr.le (Store.le_trans (Store.le_trans hS1 hS2) hS3)
  have hS3' : S.le S3 := Store.le_trans (Store.le_trans hS1 hS2) hS3
  have hll : (L.map (·.1)).length = L.length := List.length_map _
  have fin : ∀ (p5 : Option Addr) (c5 : Nat) (xs : List Ex) (S5 S6 S7 : Store) (b1 b2 : Nat), S3.le S5 → S5.le S6 → S6.le S7 → xs = L.map (·.1) ++ [(yk, yt, yn, (ynm, yp, yl, yc), ye, yv)] → RowRd S5 p5 shE xs → PForm p5 xs.length c5 → MapRd S6 (some b1) shI shO om2 → MapRd S7 (some b2) shI shI lm2 → HIs S7 ((p5, xs.length, c5), some b1, some b2) (L.map (·.2) ++ [e]) := by
    intro p5 c5 xs S5 S6 S7 b1 b2 q1 q2 q3 hxs q4 q5 q6 q7
    refine ⟨⟨L ++ [((yk, yt, yn, (ynm, yp, yl, yc), ye, yv), e)], by rw [List.map_append]; rfl, ?_, pform_le q5, ?_, ?_⟩, ⟨om2, q6.le q3, a1, a3⟩, ⟨lm2, q7, a2, a4⟩, Rc.hist_snoc hh hval⟩
    · show xs.length = _
      rw [hxs, List.length_append, List.length_append, hll]; rfl
    · rw [List.map_append]
      rw [hxs] at q4
      exact (q4.le q2).le q3
    · intro z hz
      have hle := Store.le_trans q1 (Store.le_trans q2 q3)
      rcases List.mem_append.1 hz with hz | hz
      · exact (hK z hz).le (Store.le_trans hS3' hle)
      · simp only [List.mem_singleton] at hz
        subst hz
        exact hy.le (Store.le_trans hS3' hle)
  refine ⟨or40_5, [2], oF40_5, by kernel_rfl, And.intro (And.intro ?_ (And.intro ?_ trivial)) (And.intro ?_ trivial)⟩
  all_goals
    refine ⟨⟨_, rfl, rfl, rfl⟩, .inl ⟨_, _, _, clip_spec S3 (p, L.length, c) (L.map (·.1)) hcap hll.symm hr3, fun S4 q hS4 hq => ?_⟩⟩
    obtain ⟨qp, qn, qc⟩ := q
    obtain ⟨hq1, hq2, hq3⟩ := hq
    have hq1 : qn = (L.map (·.1)).length := hq1
    have hq2 : qc = (L.map (·.1)).length := hq2
    have hq3 : RowRd S4 qp shE (L.map (·.1)) := hq3
    subst hq1 hq2
    cases qp with
    | none =>
      have hL : L = [] := by
        rcases hq3.1 with q | ⟨b, o, q, -⟩
        · exact List.map_eq_nil_iff.1 q
        · cases q
      subst hL
      refine .inl ⟨rfl, [(yk, yt, yn, (ynm, yp, yl, yc), ye, yv)], ⟨rfl, rfl⟩, fun _ _ => ⟨trivial, trivial, trivial, ⟨trivial, trivial⟩, trivial, trivial⟩, by show 1 * 80 ≤ 140737488355328; decide, ?_⟩
      intro p5 c5 S5 hS5 hr5 hpf5 b1 S6 hS6 hm6 b2 S7 hS7 hm7
      exact ⟨rfl, ((p5, _, c5), some b1, some b2), rfl, fin p5 c5 _ S5 S6 S7 b1 b2 (Store.le_trans hS4 hS5) hS6 hS7 rfl hr5 hpf5.1 hm6.1 hm7.1⟩
    | some ad =>
      refine .inr (.inr (.inl ⟨ad, (L.map (·.1)).length, (L.map (·.1)).length, (L.map fun z : Ex × Rc.Ev => z.1), [(yk, yt, yn, (ynm, yp, yl, yc), ye, yv)], rfl, rfl, Nat.le_refl _, Nat.lt_succ_self _, hq3, ⟨rfl, rfl⟩, fun _ _ => ⟨trivial, trivial, trivial, ⟨trivial, trivial⟩, trivial, trivial⟩, ?_, ?_⟩))
      · show ((L.map (·.1)).length + 1) * 80 ≤ 140737488355328; omega
      intro p5 c5 S5 hS5 hr5 hpf5 b1 S6 hS6 hm6 b2 S7 hS7 hm7
      exact ⟨rfl, ((p5, _, c5), some b1, some b2), rfl, fin p5 c5 _ S5 S6 S7 b1 b2 (Store.le_trans hS4 hS5) hS6 hS7 rfl hr5 hpf5.1 hm6.1 hm7.1⟩
@[reducible] def rHE (x : Hx × Int) : SV := .tup [cH x.1, (false, [.v (.int .i64 x.2)])]
def HPost (r : List Rc.Ev × Int) (S' : Store) (x : Hx × Int) : Prop := HIs S' x.1 r.1 ∧ x.2 = r.2
theorem HPost.le {S S' : Store} (h : S.le S') {r x} (hx : HPost r S x) : HPost r S' x := ⟨hx.1.le h, hx.2⟩
@[reducible] def vC (nm : ByteArray) (q : Hd) : Value := .agg #[.string nm, slV q]
theorem call_spec (S : Store) (x : Hx) (l : List Rc.Ev) (hx : HIs S x l) (t n : Int) (ht : inI64 t) (hn : inI64 n) (nm : Rc.Bs) (hnm : nm.length ≤ 1000000000) (q : Hd) (ar : List Int) (hq : NsIs S q ar) (har : ar.length ≤ 1000000) :
    Pure Tryz.prog 19 S [vH x, .int .i64 t, .int .i64 n, vC (bs nm) q] (A := Hx × Int) rHE (fun S' x => HPost (Rc.callR l t n nm ar) S' x) := by
  refine pure_vc agrees Tryz.func19 rfl rfl (fun S S' q hle h => h.le hle) ?_
  obtain ⟨om, ho1, ho2, ho3⟩ := hx.os
  obtain ⟨lm, hl1, hl2, hl3⟩ := hx.ts
  refine ⟨om, ho1, t, ((0 : Int), false), rfl, rfl, ⟨_, rfl, rfl, rfl⟩, .inl ⟨_, _, _, thread_spec S t, fun S1 _ hS1 _ => ?_⟩⟩
  have hx1 := hx.le hS1
  by_cases h1 : ¬ (1 ≤ t ∧ t ≤ 8)
  · refine onE (ntF (decide_eq_false h1)) ⟨rfl, (x, 3), rfl, ?_⟩
    unfold Rc.callR; rw [if_pos (by omega)]; exact ⟨hx1, rfl⟩
  replace h1 := Decidable.not_not.1 h1
  refine offE (ntT (decide_eq_true h1)) ?_
  cases hm : Rc.openM l t with
  | some c =>
    refine onE (show (mget shI om t).isSome = true by rw [ho3 t, hm]; rfl) ⟨rfl, (x, 13), rfl, ?_⟩
    obtain ⟨i, -, hi, -⟩ := Rc.open_some hm
    unfold Rc.callR; rw [if_neg (by omega), if_pos (by omega)]; exact ⟨hx1, rfl⟩
  | none =>
    refine offE (show (mget shI om t).isSome = false by rw [ho3 t, hm]; rfl) ⟨lm, hl1.le hS1, t, (0 : Int), rfl, rfl, ?_⟩
    have ho := Rc.open_none hm
    by_cases h2 : n ≤ Rc.lastR l t
    · refine onE (show decide (n ≤ (mget shI lm t).getD 0) = true by rw [hl3 t]; exact decide_eq_true h2) ⟨rfl, (x, 12), rfl, ?_⟩
      unfold Rc.callR; rw [if_neg (by omega), if_neg (by omega), if_pos h2]; exact ⟨hx1, rfl⟩
    refine offE (show decide (n ≤ (mget shI lm t).getD 0) = false by rw [hl3 t]; exact decide_eq_false h2) ⟨⟨_, rfl, rfl, rfl⟩, .inl ⟨_, _, _, named_spec S1 nm hnm, fun S2 _ hS2 _ => ?_⟩⟩
    have hx2 := hx1.le hS2
    cases h3 : Sc.namedW nm with
    | false =>
      refine onT ⟨rfl, (x, 16), rfl, ?_⟩
      unfold Rc.callR; rw [if_neg (by omega), if_neg (by omega), if_neg h2, if_pos h3]; exact ⟨hx2, rfl⟩
    | true =>
      have hql : q.2.1 = ar.length := hq.len
      refine onF ?_
      by_cases h4 : 4 < ar.length
      · refine onE (decide_eq_true (by show ((q.2.1 : Nat) : Int) > 4; omega)) ⟨rfl, (x, 15), rfl, ?_⟩
        unfold Rc.callR; rw [if_neg (by omega), if_neg (by omega), if_neg h2, if_neg (by rw [h3]; simp), if_pos h4]; exact ⟨hx2, rfl⟩
      refine offE (decide_eq_false (by show ¬ ((q.2.1 : Nat) : Int) > 4; omega)) ⟨⟨_, rfl, rfl, rfl⟩, .inl ⟨_, _, _, full_spec S2 x l hx2, fun S3 _ hS3 _ => ?_⟩⟩
      have hx3 := hx2.le hS3
      have hS03 : S.le S3 := Store.le_trans hS1 (Store.le_trans hS2 hS3)
      by_cases h5 : 1024 ≤ l.length
      · refine onE (decide_eq_true h5) ⟨rfl, (x, 9), rfl, ?_⟩
        unfold Rc.callR; rw [if_neg (by omega), if_neg (by omega), if_neg h2, if_neg (by rw [h3]; simp), if_neg h4, if_pos h5]; exact ⟨hx3, rfl⟩
      refine offE (decide_eq_false h5) ⟨⟨_, rfl, rfl, rfl⟩, .inl ⟨_, _, _, clone_spec S3 q ar (hq.le hS03) har, fun S4 q' hS4 hq' => ?_⟩⟩
      refine ⟨⟨_, rfl, rfl, rfl⟩, .inl fun bn S5 hS5 hbn bt S6 hS6 hbt => ⟨_, _, _, add_spec S6 x l (((hx3.le hS4).le hS5).le hS6) (0, t, n, (bs nm, q'), 0, 0) ⟨0, t, n, nm, ar, 0, 0⟩ ⟨rfl, rfl, rfl, rfl, (hq'.le hS5).le hS6, rfl, rfl, hnm, har, ⟨in64_iff.2 ht, in64_iff.2 hn, fun a ha => in64_iff.2 (hq.ins a ha), rfl, rfl⟩⟩ _ (ch_call (Store.rd_le hS6 hbn.1) hbt.1 l nm ar) ?_, fun S7 x' hS7 hx' => ⟨rfl, (x', 0), rfl, ?_⟩⟩⟩
      · exact ⟨by omega, .inl ⟨rfl, h1, hm, by show Rc.lastR l t < n; omega, h3, by show ar.length ≤ 4; omega, rfl, rfl⟩⟩
      · unfold Rc.callR; rw [if_neg (by omega), if_neg (by omega), if_neg h2, if_neg (by rw [h3]; simp), if_neg h4, if_neg h5]; exact ⟨hx', rfl⟩
theorem open_wide {S : Store} {x : Hx} {l : List Rc.Ev} (hx : HIs S x l) {t : Int} {c : Int × Bool} (h : Rc.openM l t = some c) : Sc.in64 c.1 = true := by
  obtain ⟨i, e, -, h2, -, -, h5, -⟩ := Rc.open_some h
  rw [← h5]
  exact (li_wide hx.ls e (List.mem_of_getElem? h2)).2.1
theorem answer_spec (S : Store) (x : Hx) (l : List Rc.Ev) (hx : HIs S x l) (t er va : Int) (ht : inI64 t) (her : inI64 er) (hva : inI64 va) :
    Pure Tryz.prog 21 S [vH x, .int .i64 t, .agg #[.int .i64 er, .int .i64 va]] (A := Hx × Int) rHE (fun S' x => HPost (Rc.answerR l t er va) S' x) := by
  refine pure_vc agrees Tryz.func21 rfl rfl (fun S S' q hle h => h.le hle) ?_
  obtain ⟨om, ho1, ho2, ho3⟩ := hx.os
  refine ⟨om, ho1, t, ((0 : Int), false), rfl, rfl, ⟨_, rfl, rfl, rfl⟩, .inl ⟨_, _, _, thread_spec S t, fun S1 _ hS1 _ => ?_⟩⟩
  have hx1 := hx.le hS1
  by_cases h1 : ¬ (1 ≤ t ∧ t ≤ 8)
  · refine onE (ntF (decide_eq_false h1)) ⟨rfl, (x, 3), rfl, ?_⟩
    unfold Rc.answerR; rw [if_pos (by omega)]; exact ⟨hx1, rfl⟩
  replace h1 := Decidable.not_not.1 h1
  refine offE (ntT (decide_eq_true h1)) ?_
  cases hm : Rc.openM l t with
  | none =>
    refine onE (show (!(mget shI om t).isSome) = true by rw [ho3 t, hm]; rfl) ⟨rfl, (x, 13), rfl, ?_⟩
    have ho := Rc.open_none hm
    unfold Rc.answerR; rw [if_neg (by omega), if_pos (by omega)]; exact ⟨hx1, rfl⟩
  | some c =>
    obtain ⟨i, -, hi, -⟩ := Rc.open_some hm
    have hg : mget shI om t = some c := (ho3 t).trans hm
    refine offE (show (!(mget shI om t).isSome) = false by rw [hg]; rfl) ⟨⟨_, rfl, rfl, rfl⟩, .inl ⟨_, _, _, full_spec S1 x l hx1, fun S3 _ hS3 _ => ?_⟩⟩
    have hx3 := hx1.le hS3
    by_cases h5 : 1024 ≤ l.length
    · refine onE (decide_eq_true h5) ⟨rfl, (x, 9), rfl, ?_⟩
      unfold Rc.answerR; rw [if_neg (by omega), if_neg (by omega), if_pos h5]; exact ⟨hx3, rfl⟩
    refine offE (decide_eq_false h5) ?_
    obtain ⟨cn, cc⟩ := c
    have hnum : ((mget shI om t).getD ((0 : Int), false)).1 = cn := by rw [hg]; rfl
    have hwn := open_wide hx hm
    refine ⟨⟨_, rfl, rfl, rfl⟩, .inl fun bt S6 hS6 hbt => ⟨_, _, _, add_spec S6 x l (hx3.le hS6) (1, t, ((mget shI om t).getD ((0 : Int), false)).1, (bs [], none, 0, 0), er, va) ⟨1, t, cn, [], [], er, va⟩ ⟨rfl, rfl, hnum, rfl, ns_nil _, rfl, rfl, Nat.zero_le _, Nat.zero_le _, ⟨in64_iff.2 ht, hwn, (fun a ha => by cases ha), in64_iff.2 her, in64_iff.2 hva⟩⟩ _ (ch_answer hbt.1 l cn er va) ?_, fun S7 x' hS7 hx' => ⟨rfl, (x', 0), rfl, ?_⟩⟩⟩
    · exact ⟨by omega, .inr (.inl ⟨rfl, h1, ⟨cc, hm⟩, rfl, rfl⟩)⟩
    · unfold Rc.answerR
      rw [if_neg (by omega), if_neg (by omega), if_neg h5, Rc.num_open hm]; exact ⟨hx', rfl⟩
theorem commit_spec (S : Store) (x : Hx) (l : List Rc.Ev) (hx : HIs S x l) (t : Int) (ht : inI64 t) :
    Pure Tryz.prog 22 S [vH x, .int .i64 t] (A := Hx × Int) rHE (fun S' x => HPost (Rc.commitR l t) S' x) := by
  refine pure_vc agrees Tryz.func22 rfl rfl (fun S S' q hle h => h.le hle) ?_
  obtain ⟨om, ho1, ho2, ho3⟩ := hx.os
  refine ⟨om, ho1, t, ((0 : Int), false), rfl, rfl, ⟨_, rfl, rfl, rfl⟩, .inl ⟨_, _, _, thread_spec S t, fun S1 _ hS1 _ => ?_⟩⟩
  have hx1 := hx.le hS1
  by_cases h1 : ¬ (1 ≤ t ∧ t ≤ 8)
  · refine onE (ntF (decide_eq_false h1)) ⟨rfl, (x, 3), rfl, ?_⟩
    unfold Rc.commitR; rw [if_pos (by omega)]; exact ⟨hx1, rfl⟩
  replace h1 := Decidable.not_not.1 h1
  refine offE (ntT (decide_eq_true h1)) ?_
  cases hm : Rc.openM l t with
  | none =>
    refine onE (show (!(mget shI om t).isSome) = true by rw [ho3 t, hm]; rfl) ⟨rfl, (x, 13), rfl, ?_⟩
    have ho := Rc.open_none hm
    unfold Rc.commitR; rw [if_neg (by omega), if_pos (by omega)]; exact ⟨hx1, rfl⟩
  | some c =>
    obtain ⟨i, -, hi, -⟩ := Rc.open_some hm
    have hg : mget shI om t = some c := (ho3 t).trans hm
    have htw := Rc.twice_open hm
    obtain ⟨cn, cc⟩ := c
    have htw : Rc.twiceR l t (Rc.openR l t).toNat = cc := htw
    refine offE (show (!(mget shI om t).isSome) = false by rw [hg]; rfl) ?_
    have hcc : ((mget shI om t).getD ((0 : Int), false)).2 = cc := by rw [hg]; rfl
    have hnum : ((mget shI om t).getD ((0 : Int), false)).1 = cn := by rw [hg]; rfl
    have hwn := open_wide hx hm
    cases cc with
    | true =>
      refine onE hcc ⟨rfl, (x, 11), rfl, ?_⟩
      unfold Rc.commitR; rw [if_neg (by omega), if_neg (by omega), if_pos htw]; exact ⟨hx1, rfl⟩
    | false =>
      refine offE hcc ⟨⟨_, rfl, rfl, rfl⟩, .inl ⟨_, _, _, full_spec S1 x l hx1, fun S3 _ hS3 _ => ?_⟩⟩
      have hx3 := hx1.le hS3
      by_cases h5 : 1024 ≤ l.length
      · refine onE (decide_eq_true h5) ⟨rfl, (x, 9), rfl, ?_⟩
        unfold Rc.commitR; rw [if_neg (by omega), if_neg (by omega), if_neg (by rw [htw]; simp), if_pos h5]; exact ⟨hx3, rfl⟩
      refine offE (decide_eq_false h5) ⟨⟨_, rfl, rfl, rfl⟩, .inl fun bc S5 hS5 hbc bt S6 hS6 hbt => ?_⟩
      have hbc' : S6.rd bc 0 [.int .i64 cn, .bool false] := by
        have h : S5.rd bc 0 [.int .i64 ((mget shI om t).getD ((0 : Int), false)).1, .bool ((mget shI om t).getD ((0 : Int), false)).2] := hbc.1
        rw [hnum, hcc] at h
        exact Store.rd_le hS6 h
      refine ⟨_, _, _, add_spec S6 x l ((hx3.le hS5).le hS6) (2, t, ((mget shI om t).getD ((0 : Int), false)).1, (bs [], none, 0, 0), 0, 0) ⟨2, t, cn, [], [], 0, 0⟩ ⟨rfl, rfl, hnum, rfl, ns_nil _, rfl, rfl, Nat.zero_le _, Nat.zero_le _, ⟨in64_iff.2 ht, hwn, (fun a ha => by cases ha), rfl, rfl⟩⟩ _ (ch_commit hbc' hbt.1 l hm) ?_, fun S7 x' hS7 hx' => ⟨rfl, (x', 0), rfl, ?_⟩⟩
      · exact ⟨by omega, .inr (.inr (.inl ⟨rfl, h1, hm, rfl, rfl, rfl, rfl⟩))⟩
      · unfold Rc.commitR
        rw [if_neg (by omega), if_neg (by omega), if_neg (by rw [htw]; simp), if_neg h5, Rc.num_open hm]; exact ⟨hx', rfl⟩
theorem crash_spec (S : Store) (x : Hx) (l : List Rc.Ev) (hx : HIs S x l) : Pure Tryz.prog 20 S [vH x] (A := Hx) rH (fun S' x => HIs S' x (Rc.crashR l)) := by
  refine pure_vc agrees Tryz.func20 rfl rfl (fun S S' q hle h => h.le hle) ?_
  refine ⟨⟨_, rfl, rfl, rfl⟩, .inl ⟨_, _, _, full_spec S x l hx, fun S1 _ hS1 _ => ?_⟩⟩
  have hx1 := hx.le hS1
  by_cases h5 : 1024 ≤ l.length
  · refine onE (decide_eq_true h5) ⟨rfl, x, rfl, ?_⟩
    unfold Rc.crashR; rw [if_pos h5]; exact hx1
  refine offE (decide_eq_false h5) ⟨⟨_, rfl, rfl, rfl⟩, .inl ⟨_, _, _, add_spec S1 x l hx1 (3, 0, 0, (bs [], none, 0, 0), 0, 0) Rc.crash ⟨rfl, rfl, rfl, rfl, ns_nil _, rfl, rfl, Nat.zero_le _, Nat.zero_le _, ⟨rfl, rfl, (fun a ha => by cases ha), rfl, rfl⟩⟩ _ (ch_crash S1 l) ⟨by omega, .inr (.inr (.inr rfl))⟩, fun S7 x' hS7 hx' => ⟨rfl, x', rfl, ?_⟩⟩⟩
  unfold Rc.crashR; rw [if_neg h5]; exact hx'
end Go.Proofs.YtpeehenohdlfdaaGreatDoor
