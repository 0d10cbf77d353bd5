/- law57: the law Back: slices.Clone of acts, small acts, what is printed is read again. -/
import Derived.Test.YtpeehenohdlfdaaGreatDoorFz
import Derived.Test.YtpeehenohdlfdaaGreatDoorFs
namespace Go.Proofs.YtpeehenohdlfdaaGreatDoor
open Go Go.Vc
set_option maxRecDepth 100000
set_option maxHeartbeats 8000000

@[reducible] def cOut : Option Addr → SV
  | none => .c (.v (.slice none 0 0))
  | some _ => .c (.ref 0)
@[reducible] def cNews (xs : List Ex) : Option Addr → List Res
  | none => []
  | some _ => [.row shA 64 xs]
theorem rowA_none {S : Store} {sh : Shape} {xs : List sh.T} (h : RowRd S none sh xs) : xs = [] := by
  rcases h.1 with h | ⟨_, _, h, _⟩
  · exact h
  · cases h
theorem cloneA_spec (S : Store) (p : Hd) (xs : List Ex) (hl : xs.length = p.2.1) (hr : RowRd S p.1 shA xs) (hn : xs.length * 80 ≤ 140737488355328) :
    SpecN Tryz.prog 26 S [slV p] (A := Unit) (fun _ => cOut p.1) (fun _ => cNews xs p.1) (fun _ _ => True) := by
  obtain ⟨p, k, c⟩ := p
  simp only at hl hr
  subst hl
  refine specN_vc agrees Tryz.func26 rfl rfl (fun _ _ _ _ h => h) ?_
  cases p with
  | none => exact onT ⟨[], (), rfl, rfl, rfl, trivial⟩
  | some a =>
    refine onF ⟨xs, src_of rfl hr, fun y hy => hr.2 y hy, by show ([].length + xs.length) * 80 ≤ 140737488355328; rw [List.length_nil]; omega, [0], (), rfl, rfl, rfl, trivial⟩
/-- The acts behind the loop that makes errors small. -/
@[reducible] def lowX (x : Ex) : Ex := (x.1, x.2.1, x.2.2.1, x.2.2.2.1, bitAnd .i64 x.2.2.2.2.1 255, x.2.2.2.2.2)
def lowA (a : Rc.Ev) : Rc.Ev := { a with er := bitAnd .i64 a.er 255 }
def lowXs (xs : List Ex) (i : Nat) : List Ex := (xs.take i).map lowX ++ xs.drop i
theorem low_get {xs : List Ex} {i : Nat} {x : Ex} (h : xs[i]? = some x) : (lowXs xs i)[i]? = some x := by
  have hi := (List.getElem?_eq_some_iff.1 h).1
  unfold lowXs
  rw [List.getElem?_append_right (by rw [List.length_map, List.length_take]; omega), List.length_map, List.length_take, Nat.min_eq_left (by omega), Nat.sub_self, List.getElem?_drop]
  exact h
theorem low_len (xs : List Ex) (i : Nat) : (lowXs xs i).length = xs.length := by
  unfold lowXs; simp; omega
theorem low_set {xs : List Ex} {i : Nat} {x : Ex} (h : xs[i]? = some x) : (lowXs xs i).set i (lowX x) = lowXs xs (i + 1) := by
  have hi := (List.getElem?_eq_some_iff.1 h).1
  have hd : xs.drop i = x :: xs.drop (i + 1) := by
    rw [List.getElem?_eq_getElem hi] at h
    rw [← Option.some.inj h, List.getElem_cons_drop]
  unfold lowXs
  rw [List.set_append, if_neg (by rw [List.length_map, List.length_take]; omega), List.length_map, List.length_take, Nat.min_eq_left (by omega), Nat.sub_self, hd, List.set_cons_zero, List.take_add_one, h, List.map_append, List.append_assoc]
  rfl
theorem low_all (xs : List Ex) : lowXs xs xs.length = xs.map lowX := by unfold lowXs; simp
theorem and255 (x : Int) : 0 ≤ bitAnd .i64 x 255 ∧ bitAnd .i64 x 255 ≤ 255 := by
  unfold bitAnd
  have h : (BitVec.ofInt 64 x &&& BitVec.ofInt 64 255).toNat ≤ 255 := by
    rw [BitVec.toNat_and]
    exact Nat.le_trans Nat.and_le_right (by decide)
  have : IntKind.i64.wrap (((BitVec.ofInt 64 x &&& BitVec.ofInt 64 255).toNat : Nat) : Int) = (((BitVec.ofInt 64 x &&& BitVec.ofInt 64 255).toNat : Nat) : Int) := wrap_i64 (by omega) (by omega)
  show 0 ≤ IntKind.i64.wrap (((BitVec.ofInt 64 x &&& BitVec.ofInt 64 255).toNat : Nat) : Int) ∧ IntKind.i64.wrap (((BitVec.ofInt 64 x &&& BitVec.ofInt 64 255).toNat : Nat) : Int) ≤ 255
  rw [this]; omega
theorem low_is {S : Store} {x : Ex} {a : Rc.Ev} (h : ARaw S x a) (hg : greatA a = false) : AIs S (lowX x) (lowA a) := by
  unfold greatA at hg
  rw [Bool.or_eq_false_iff] at hg
  have e1 := of_decide_eq_false hg.1
  have e2 := of_decide_eq_false hg.2
  have h5 := and255 a.er
  refine ⟨h.k, h.t, h.n, h.nm, h.ar, ?_, h.va, (by show a.nm.length ≤ _; omega), (by show a.as.length ≤ _; omega), h.lo, h.hi, h.it, h.i_n, ⟨?_, ?_⟩, h.iv⟩
  · show bitAnd .i64 x.2.2.2.2.1 255 = bitAnd .i64 a.er 255
    rw [h.er]
  · show -9223372036854775808 ≤ bitAnd .i64 a.er 255; omega
  · show bitAnd .i64 a.er 255 ≤ 9223372036854775807; omega
theorem low_as {S : Store} {L : List (Ex × Rc.Ev)} (h : ∀ z ∈ L, ARaw S z.1 z.2) (hg : greatR (L.map (·.2)) = false) {p : Option Addr} {c : Nat} (hp : PForm p L.length c) (hr : RowRd S p shA ((L.map (·.1)).map lowX)) : AsIs S (p, L.length, c) ((L.map (·.2)).map lowA) := by
  refine ⟨L.map fun z => (lowX z.1, lowA z.2), by simp, by simp, pform_le hp, (by rw [List.map_map] at hr ⊢; exact hr), fun z hz => ?_⟩
  obtain ⟨y, hy, rfl⟩ := List.mem_map.1 hz
  refine low_is (h y hy) ?_
  unfold greatR at hg
  rw [Bool.or_eq_false_iff] at hg
  have := List.any_eq_false.1 hg.1 y.2 (List.mem_map_of_mem hy)
  simpa using this
/-- Acts with small errors make events with small errors. -/
def erOk (e : Rc.Ev) : Prop := 0 ≤ e.er ∧ e.er ≤ 255
theorem done_er {l : List Rc.Ev} {a : Rc.Ev} (hl : ∀ e ∈ l, erOk e) (ha : erOk a) : ∀ e ∈ doneR l a, erOk e := by
  have one : ∀ e : Rc.Ev, erOk e → ∀ x ∈ l ++ [e], erOk x := fun e he x hx => by
    rcases List.mem_append.1 hx with hx | hx
    · exact hl x hx
    · simp only [List.mem_singleton] at hx; subst hx; exact he
  unfold doneR
  split
  · rcases Rc.call_cases l a.t a.n a.nm a.as with q | q
    · rw [q.1]; exact hl
    · rw [q]; exact one _ ⟨Int.le_refl 0, by show (0 : Int) ≤ 255; decide⟩
  split
  · rcases Rc.answer_cases l a.t a.er a.va with q | q
    · rw [q.1]; exact hl
    · rw [q]; exact one _ ha
  split
  · rcases Rc.commit_cases l a.t with q | q
    · rw [q.1]; exact hl
    · rw [q]; exact one _ ⟨Int.le_refl 0, by show (0 : Int) ≤ 255; decide⟩
  · unfold Rc.crashR
    split
    · exact hl
    · exact one _ ⟨Int.le_refl 0, by show (0 : Int) ≤ 255; decide⟩
theorem made_er (acs : List Rc.Ev) (h : ∀ a ∈ acs, erOk a) : ∀ e ∈ madeR acs, erOk e := by
  have : ∀ (m l : List Rc.Ev), (∀ a ∈ m, erOk a) → (∀ e ∈ l, erOk e) → ∀ e ∈ m.foldl doneR l, erOk e := fun m => by
    induction m with
    | nil => exact fun l _ hl => hl
    | cons a m ih => exact fun l hm hl => ih (doneR l a) (fun b hb => hm b (List.mem_cons_of_mem _ hb)) (done_er hl (hm a (List.mem_cons_self ..)))
  exact this acs [] h (fun e he => by cases he)
theorem done_len (l : List Rc.Ev) (a : Rc.Ev) : (doneR l a).length ≤ l.length + 1 := by
  unfold doneR
  split
  · rcases Rc.call_cases l a.t a.n a.nm a.as with q | q
    · rw [q.1]; omega
    · rw [q]; simp
  split
  · rcases Rc.answer_cases l a.t a.er a.va with q | q
    · rw [q.1]; omega
    · rw [q]; simp
  split
  · rcases Rc.commit_cases l a.t with q | q
    · rw [q.1]; omega
    · rw [q]; simp
  · unfold Rc.crashR
    split
    · omega
    · simp
theorem made_len (acs : List Rc.Ev) : (madeR acs).length ≤ acs.length := by
  have : ∀ (m l : List Rc.Ev), (m.foldl doneR l).length ≤ l.length + m.length := fun m => by
    induction m with
    | nil => exact fun l => Nat.le_refl _
    | cons a m ih => intro l; have h1 := ih (doneR l a); have h2 := done_len l a; rw [List.foldl_cons, List.length_cons]; omega
  have := this acs []
  rw [List.length_nil, Nat.zero_add] at this
  exact this
theorem back_parse {S : Store} {h : Hx} {L : List (Ex × Rc.Ev)} (hx : HIs S h (madeR ((L.map (·.2)).map lowA))) (hn : L.length < 60) : Rc.parseR (Rc.textR (madeR ((L.map (·.2)).map lowA))) = (madeR ((L.map (·.2)).map lowA), 0, 0) ∧ (Rc.textR (madeR ((L.map (·.2)).map lowA))).length ≤ 65536 := by
  have hw := li_wide hx.ls
  have he := made_er ((L.map (·.2)).map lowA) fun a ha => by
    obtain ⟨b, -, rfl⟩ := List.mem_map.1 ha
    exact and255 b.er
  have hl := made_len ((L.map (·.2)).map lowA)
  rw [List.length_map, List.length_map] at hl
  have ht := Rc.text_len hx.hs hw
  refine ⟨Rc.parse_print hx.hs (fun e h => ⟨(hw e h).1, (hw e h).2.1, (hw e h).2.2.1, he e h, (hw e h).2.2.2.2⟩) (by omega), by omega⟩
theorem law_back (S : Store) (hL : Lw S) (q : Hd) (acs : List Rc.Ev) (hq : AsRaw S q acs) (hn : acs.length * 80 ≤ 140737488351232) (x : Ex) (a : Rc.Ev) (hx : ARaw S x a) : Pure Tryz.prog 9 S [slV q, vA x] (A := Unit) (fun _ => rB true) (fun _ _ => True) := by
  have hl := raw_len hq
  obtain ⟨L, rfl, h2, h3, h4, h5⟩ := hq
  obtain ⟨p, n, c⟩ := q
  obtain ⟨xk, xt, xn, ⟨xnm, xq⟩, xe, xv⟩ := x
  refine pure_vc agrees Tryz.func9 rfl rfl (fun S S' q hle h => h) ?_
  have h2 : n = L.length := h2
  have h4 : RowRd S p shA (L.map (·.1)) := h4
  have hnl : L.length * 80 ≤ 140737488351232 := by rw [List.length_map] at hn; exact hn
  have hcl : ∀ S', S.le S' → SpecN Tryz.prog 26 S' [slV (p, n, c)] (A := Unit) (fun _ => cOut p) (fun _ => cNews (L.map (·.1)) p) (fun _ _ => True) := fun S' hS => cloneA_spec S' (p, n, c) (L.map (·.1)) (by rw [List.length_map]; exact h2.symm) (h4.le hS) (by rw [List.length_map]; omega)
  have hgr : ∀ (S' : Store) (p' : Option Addr) (c' : Nat), S.le S' → PForm p' (L.length + 1) c' → RowRd S' p' shA (L.map (·.1) ++ [(xk, xt, xn, (xnm, xq), xe, xv)]) → Pure Tryz.prog 10 S' [.slice p' (L.length + 1) c'] (A := Unit) (fun _ => rB (greatR (L.map (·.2) ++ [a]))) (fun _ _ => True) := fun S' p' c' hS hpf hr => by
    refine great_spec S' (p', L.length + 1, c') (L.map (·.2) ++ [a]) ⟨L ++ [((xk, xt, xn, (xnm, xq), xe, xv), a)], by simp, by simp, pform_le hpf, by simpa using hr, fun z hz => ?_⟩ (by simp; omega)
    rcases List.mem_append.1 hz with hz | hz
    · exact (h5 z hz).le hS
    · simp only [List.mem_singleton] at hz; subst hz; exact hx.le hS
  have hgb : greatR (L.map (·.2) ++ [a]) = false → L.length < 60 ∧ greatR (L.map (·.2)) = false ∧ greatA a = false := fun h => by
    unfold greatR at h ⊢
    rw [Bool.or_eq_false_iff, List.any_append, Bool.or_eq_false_iff] at h
    have h0 := of_decide_eq_false h.2
    rw [List.length_append, List.length_map] at h0
    have h0 : ¬ 60 < L.length + 1 := h0
    rw [h.1.1, List.length_map, decide_eq_false (by omega)]
    refine ⟨by omega, rfl, ?_⟩
    have := h.1.2
    simpa using this
  cases p with
  | none =>
    have hL0 := rowA_none h4
    have hl0 : L = [] := List.map_eq_nil_iff.1 hL0
    subst hl0
    refine ⟨or9_1, [1, 2, 3], [1], by kernel_rfl, ?_⟩
    refine And.intro ⟨⟨_, rfl, rfl, rfl⟩, .inr (.inr (.inr (.inr (.inl ⟨_, _, _, _, hcl S (Store.le_refl _), fun S1 _ hS1 _ => ?_⟩))))⟩ (And.intro ⟨⟨_, rfl, rfl, rfl⟩, .inr (.inr (.inr (.inr (.inl ⟨_, _, _, _, hcl S (Store.le_refl _), fun S1 _ hS1 _ => ?_⟩))))⟩ trivial)
    · refine .inl ⟨rfl, [(xk, xt, xn, (xnm, xq), xe, xv)], ?_, fun y _ => okA y, (show 1 * 80 ≤ 140737488355328 by decide), ⟨_, rfl, rfl, rfl⟩, .inl fun p2 c2 S2 hS2 hr2 hpf2 => ⟨_, _, _, hgr S2 p2 c2 (Store.le_trans hS1 hS2) hpf2.1 hr2, fun S3 _ hS3 _ => ?_⟩⟩
      · first | exact ⟨rfl, rfl⟩ | exact ⟨rfl, rfl, by decide⟩
      refine And.intro (fun hg => ?_) (fun hg => ?_)
      · exact ⟨⟨_, rfl, rfl, rfl⟩, .inl ⟨_, _, _, awake_spec S3 (hL.lt.le (Store.le_trans hS1 (Store.le_trans hS2 hS3))), fun S4 _ hS4 _ => ⟨rfl, (), rfl, trivial⟩⟩⟩
      obtain ⟨hn60, hg1, hg2⟩ := hgb hg
      clear hg
      refine ⟨⟨_, rfl, rfl, rfl⟩, .inr (.inr (.inr (.inr (.inl ⟨_, _, _, _, hcl S3 (Store.le_trans hS1 (Store.le_trans hS2 hS3)), fun S4 _ hS4 _ => ?_⟩))))⟩
      have hS04 : S.le S4 := Store.le_trans hS1 (Store.le_trans hS2 (Store.le_trans hS3 hS4))
      refine ⟨[], [(0, shA, 64)], Nat, [5, 29, 30, 31, 32, 33, 34, 35, 36, 37, 38, 39, 40, 41], fun i => [(28, rI i)], fun i => [.box (shA.cs (xk, xt, xn, (xnm, xq), xe, xv)), .row shA 64 [(xk, xt, xn, (xnm, xq), xe, xv)], .gone, .row shA 64 (lowXs [] i)], fun _ => S4, fun i => i ≤ 0, fun i => 0 - i, ?_⟩
      refine And.intro (Exists.intro 0 (And.intro (And.intro (And.intro ?_ rfl) (And.intro rfl (Store.le_refl _))) (Nat.zero_le _))) ?_
      · repeat' first | exact trivial | exact rfl | refine And.intro ?_ ?_
      rintro i hi
      have hi : i ≤ 0 := hi
      refine And.intro (fun h => ?_) (fun h => ?_)
      · have hil : i < 0 := by
          have : ((i : Nat) : Int) < ((([] : List Ex).length : Nat) : Int) := of_decide_eq_true h
          first | (rw [List.length_map] at this) | (rw [List.length_nil] at this)
          omega
        have i0 : (0 : Int) ≤ ((i : Nat) : Int) := Int.natCast_nonneg _
        obtain ⟨y, hy⟩ : ∃ y, ([] : List Ex)[i]? = some y := ⟨_, List.getElem?_eq_getElem (by first | exact hil | (rw [List.length_map]; exact hil))⟩
        have hlen : ((i : Nat) : Int) < (((lowXs [] i).length : Nat) : Int) := by rw [low_len]; first | (rw [List.length_map]; omega) | (exfalso; omega)
        refine ⟨i0, hlen, y, low_get hy, _, rfl, i0, hlen, y, lowX y, low_get hy, okA _, rfl, (by show 0 + 5 + 0 + 1 ≤ 7; decide), ?_⟩
        refine ⟨((i + 1 : Nat) : Int), wrap_i64 (by omega) (by omega), i + 1, ⟨⟨?_, rfl⟩, ?_, Store.le_refl _⟩, hil, by show 0 - (i + 1) < 0 - i; omega⟩
        · repeat' first | exact trivial | exact rfl | refine And.intro ?_ ?_
        · show [_, _, _, Res.row shA 64 ((lowXs [] i).set i (lowX y))] = _
          rw [low_set hy]
      have hil : i = 0 := by
        have : ¬ ((i : Nat) : Int) < ((([] : List Ex).length : Nat) : Int) := of_decide_eq_false h
        first | (rw [List.length_map] at this) | (rw [List.length_nil] at this)
        omega
      subst hil
      clear h hi
      obtain ⟨xe', hxe'⟩ : ∃ r, bitAnd .i64 xe 255 = r := ⟨_, rfl⟩
      refine ⟨xe', hxe', ⟨_, rfl, rfl, rfl⟩, .inl fun p5 c5 S5 hS5 hr5 hpf5 => ?_⟩
      have hq5 : AsIs S5 (p5, (lowXs [] 0).length, c5) ((([] : List (Ex × Rc.Ev)).map (·.2)).map lowA) := by
        have e1 : lowXs [] 0 = [].map lowX := by first | rfl | (have := low_all []; rw [List.length_map] at this; exact this)
        have e2 : (lowXs [] 0).length = 0 := by rw [low_len]; first | rfl | exact List.length_map ..
        have hp5 := hpf5.1
        rw [e2] at hp5 ⊢
        exact low_as (fun z hz => (h5 z hz).le (Store.le_trans hS04 hS5)) hg1 hp5 (by first | (rw [← e1]; exact hr5) | exact hr5)
      have hbn : ((([] : List (Ex × Rc.Ev)).map (·.2)).map lowA).length ≤ 1000000000000000 := by rw [List.length_map, List.length_map]; exact Nat.le_trans (Nat.le_of_lt hn60) (by decide)
      have hms := made_spec S5 (p5, (lowXs [] 0).length, c5) _ hq5 hbn
      refine Exists.intro _ (Exists.intro _ (Exists.intro _ (And.intro hms ?_)))
      intro S6 z hS6 hz
      obtain ⟨z1, z2, zb⟩ := z
      obtain ⟨hz1, hz2, hz3⟩ := hz
      have hz1 : HIs S6 z1 (madeR ((([] : List (Ex × Rc.Ev)).map (·.2)).map lowA)) := hz1
      have hz3 : zb = true := hz3
      subst hz3
      obtain ⟨hpp, htl⟩ := back_parse hz1 hn60
      generalize madeR ((([] : List (Ex × Rc.Ev)).map (·.2)).map lowA) = l at *
      have hll := Rc.hist_len hz1.hs
      have hpl := Rc.pend_len l
      have hS06 : S.le S6 := Store.le_trans hS04 (Store.le_trans hS5 hS6)
      refine ⟨⟨_, rfl, rfl, rfl⟩, .inl ⟨_, _, _, text_spec S6 (hL.lt.le hS06) z1 _ hz1, fun S7 _ hS7 _ => ?_⟩⟩
      refine ⟨⟨_, rfl, rfl, rfl⟩, .inl ⟨_, _, _, hparse_spec S7 (hL.le (Store.le_trans hS06 hS7)) (Rc.textR l) (by omega), fun S8 k hS8 hk => ?_⟩⟩
      rw [hpp] at hk
      obtain ⟨k1, kn, ke⟩ := k
      have hk1 : HIs S8 k1 l := hk.1
      have hk2 : (kn, ke) = ((0 : Int), (0 : Int)) := hk.2
      obtain ⟨rfl, rfl⟩ := Prod.mk.inj hk2
      have h68 := Store.le_trans hS7 hS8
      refine ⟨or9_12, [], oF9_12, by kernel_rfl, ?_⟩
      refine offE rfl (offE rfl (offE rfl ?_))
      have hz8 := hz1.le h68
      refine ⟨⟨_, rfl, rfl, rfl⟩, .inl ⟨_, _, _, events_spec S8 k1 l hk1, fun S9 q9 hS9 hq9 => ?_⟩⟩
      refine ⟨⟨_, rfl, rfl, rfl⟩, .inl ⟨_, _, _, events_spec S9 z1 l (hz8.le hS9), fun S10 q10 hS10 hq10 => ?_⟩⟩
      refine ⟨⟨_, rfl, rfl, rfl⟩, .inl ⟨_, _, _, same_spec S10 q9 q10 l (hq9.le hS10) hq10 (by omega), fun S11 _ hS11 _ => ?_⟩⟩
      have h811 := Store.le_trans hS9 (Store.le_trans hS10 hS11)
      refine offE rfl ⟨⟨_, rfl, rfl, rfl⟩, .inl ⟨_, _, _, pending_spec S11 k1 l (hk1.le h811), fun S12 q12 hS12 hq12 => ?_⟩⟩
      refine ⟨⟨_, rfl, rfl, rfl⟩, .inl ⟨_, _, _, pending_spec S12 z1 l (hz8.le (Store.le_trans h811 hS12)), fun S13 q13 hS13 hq13 => ?_⟩⟩
      refine ⟨⟨_, rfl, rfl, rfl⟩, .inl ⟨_, _, _, equalP_spec S13 q12 q13 _ (hq12.le hS13) hq13 (by rw [List.length_map]; omega), fun S14 _ hS14 _ => ?_⟩⟩
      have h814 := Store.le_trans h811 (Store.le_trans hS12 (Store.le_trans hS13 hS14))
      have h014 : S.le S14 := Store.le_trans hS06 (Store.le_trans h68 h814)
      have hz14 := hz8.le h814
      have hk14 := hk1.le h814
      refine offE rfl ?_
      have hya : AIs S14 (xk, xt, xn, (xnm, xq), xe', xv) (lowA a) := by rw [← hxe']; exact low_is (hx.le h014) hg2
      refine ⟨or9_14, [6], oF9_14, by kernel_rfl, ?_⟩
      refine And.intro ⟨⟨_, rfl, rfl, rfl⟩, .inl ⟨_, _, _, events_spec S14 z1 l hz14, fun S15 q15 hS15 hq15 => And.intro ⟨⟨_, rfl, rfl, rfl⟩, .inl ⟨_, _, _, done_spec S15 z1 q15 l (hz14.le hS15) hq15 (xk, xt, xn, (xnm, xq), xe', xv) (lowA a) (hya.le hS15), fun S16 w1 hS16 hw1 => ?_⟩⟩ (And.intro ⟨⟨_, rfl, rfl, rfl⟩, .inl ⟨_, _, _, done_spec S15 z1 q15 l (hz14.le hS15) hq15 (xk, xt, xn, (xnm, xq), xe', xv) (lowA a) (hya.le hS15), fun S16 w1 hS16 hw1 => ?_⟩⟩ trivial)⟩⟩ (And.intro ⟨⟨_, rfl, rfl, rfl⟩, .inl ⟨_, _, _, events_spec S14 z1 l hz14, fun S15 q15 hS15 hq15 => ⟨⟨_, rfl, rfl, rfl⟩, .inl ⟨_, _, _, done_spec S15 z1 q15 l (hz14.le hS15) hq15 (xk, xt, xn, (xnm, xq), xe', xv) (lowA a) (hya.le hS15), fun S16 w1 hS16 hw1 => ?_⟩⟩⟩⟩ trivial)
      all_goals
        obtain ⟨v1, r1, b1⟩ := w1
        obtain ⟨hv1, -, hb1⟩ := hw1
        have hv1 : HIs S16 v1 (doneR l (lowA a)) := hv1
        have hb1 : b1 = true := hb1
        subst hb1
        have h1416 := Store.le_trans hS15 hS16
        have hk16 := hk14.le h1416
        have hyb := hya.le h1416
        refine ⟨or9_15, [7], oF9_15, by kernel_rfl, ?_⟩
        refine And.intro ⟨⟨_, rfl, rfl, rfl⟩, .inl ⟨_, _, _, events_spec S16 k1 l hk16, fun S17 q17 hS17 hq17 => And.intro ⟨⟨_, rfl, rfl, rfl⟩, .inl ⟨_, _, _, done_spec S17 k1 q17 l (hk16.le hS17) hq17 (xk, xt, xn, (xnm, xq), xe', xv) (lowA a) (hyb.le hS17), fun S18 w2 hS18 hw2 => ?_⟩⟩ (And.intro ⟨⟨_, rfl, rfl, rfl⟩, .inl ⟨_, _, _, done_spec S17 k1 q17 l (hk16.le hS17) hq17 (xk, xt, xn, (xnm, xq), xe', xv) (lowA a) (hyb.le hS17), fun S18 w2 hS18 hw2 => ?_⟩⟩ trivial)⟩⟩ (And.intro ⟨⟨_, rfl, rfl, rfl⟩, .inl ⟨_, _, _, events_spec S16 k1 l hk16, fun S17 q17 hS17 hq17 => ⟨⟨_, rfl, rfl, rfl⟩, .inl ⟨_, _, _, done_spec S17 k1 q17 l (hk16.le hS17) hq17 (xk, xt, xn, (xnm, xq), xe', xv) (lowA a) (hyb.le hS17), fun S18 w2 hS18 hw2 => ?_⟩⟩⟩⟩ trivial)
        all_goals
          obtain ⟨v2, r2, b2⟩ := w2
          obtain ⟨hv2, -, hb2⟩ := hw2
          have hv2 : HIs S18 v2 (doneR l (lowA a)) := hv2
          have hb2 : b2 = true := hb2
          subst hb2
          have h1618 := Store.le_trans hS17 hS18
          have hL18 := hL.lt.le (Store.le_trans h014 (Store.le_trans h1416 h1618))
          refine ⟨or9_16, [], oF9_16, by kernel_rfl, ?_⟩
          refine onE rfl (onE rfl ⟨⟨_, rfl, rfl, rfl⟩, .inl ⟨_, _, _, text_spec S18 hL18 v1 _ (hv1.le h1618), fun S19 _ hS19 _ => ?_⟩⟩)
          refine ⟨⟨_, rfl, rfl, rfl⟩, .inl ⟨_, _, _, text_spec S19 (hL18.le hS19) v2 _ (hv2.le hS19), fun S20 _ hS20 _ => ?_⟩⟩
          refine onE (isE rfl) ⟨⟨_, rfl, rfl, rfl⟩, .inl ⟨_, _, _, awake_spec S20 (hL18.le (Store.le_trans hS19 hS20)), fun S21 _ hS21 _ => ?_⟩⟩
          exact ⟨rfl, (), rfl, trivial⟩
    · refine .inl ⟨rfl, [(xk, xt, xn, (xnm, xq), xe, xv)], ?_, fun y _ => okA y, (show 1 * 80 ≤ 140737488355328 by decide), ⟨_, rfl, rfl, rfl⟩, .inl fun p2 c2 S2 hS2 hr2 hpf2 => ⟨_, _, _, hgr S2 p2 c2 (Store.le_trans hS1 hS2) hpf2.1 hr2, fun S3 _ hS3 _ => ?_⟩⟩
      · first | exact ⟨rfl, rfl⟩ | exact ⟨rfl, rfl, by decide⟩
      refine And.intro (fun hg => ?_) (fun hg => ?_)
      · exact ⟨⟨_, rfl, rfl, rfl⟩, .inl ⟨_, _, _, awake_spec S3 (hL.lt.le (Store.le_trans hS1 (Store.le_trans hS2 hS3))), fun S4 _ hS4 _ => ⟨rfl, (), rfl, trivial⟩⟩⟩
      obtain ⟨hn60, hg1, hg2⟩ := hgb hg
      clear hg
      refine ⟨⟨_, rfl, rfl, rfl⟩, .inr (.inr (.inr (.inr (.inl ⟨_, _, _, _, hcl S3 (Store.le_trans hS1 (Store.le_trans hS2 hS3)), fun S4 _ hS4 _ => ?_⟩))))⟩
      have hS04 : S.le S4 := Store.le_trans hS1 (Store.le_trans hS2 (Store.le_trans hS3 hS4))
      refine ⟨[], [(0, shA, 64)], Nat, [5, 29, 30, 31, 32, 33, 34, 35, 36, 37, 38, 39, 40, 41], fun i => [(28, rI i)], fun i => [.box (shA.cs (xk, xt, xn, (xnm, xq), xe, xv)), .row shA 64 [(xk, xt, xn, (xnm, xq), xe, xv)], .gone, .row shA 64 (lowXs [] i)], fun _ => S4, fun i => i ≤ 0, fun i => 0 - i, ?_⟩
      refine And.intro (Exists.intro 0 (And.intro (And.intro (And.intro ?_ rfl) (And.intro rfl (Store.le_refl _))) (Nat.zero_le _))) ?_
      · repeat' first | exact trivial | exact rfl | refine And.intro ?_ ?_
      rintro i hi
      have hi : i ≤ 0 := hi
      refine And.intro (fun h => ?_) (fun h => ?_)
      · have hil : i < 0 := by
          have : ((i : Nat) : Int) < ((([] : List Ex).length : Nat) : Int) := of_decide_eq_true h
          first | (rw [List.length_map] at this) | (rw [List.length_nil] at this)
          omega
        have i0 : (0 : Int) ≤ ((i : Nat) : Int) := Int.natCast_nonneg _
        obtain ⟨y, hy⟩ : ∃ y, ([] : List Ex)[i]? = some y := ⟨_, List.getElem?_eq_getElem (by first | exact hil | (rw [List.length_map]; exact hil))⟩
        have hlen : ((i : Nat) : Int) < (((lowXs [] i).length : Nat) : Int) := by rw [low_len]; first | (rw [List.length_map]; omega) | (exfalso; omega)
        refine ⟨i0, hlen, y, low_get hy, _, rfl, i0, hlen, y, lowX y, low_get hy, okA _, rfl, (by show 0 + 5 + 0 + 1 ≤ 7; decide), ?_⟩
        refine ⟨((i + 1 : Nat) : Int), wrap_i64 (by omega) (by omega), i + 1, ⟨⟨?_, rfl⟩, ?_, Store.le_refl _⟩, hil, by show 0 - (i + 1) < 0 - i; omega⟩
        · repeat' first | exact trivial | exact rfl | refine And.intro ?_ ?_
        · show [_, _, _, Res.row shA 64 ((lowXs [] i).set i (lowX y))] = _
          rw [low_set hy]
      have hil : i = 0 := by
        have : ¬ ((i : Nat) : Int) < ((([] : List Ex).length : Nat) : Int) := of_decide_eq_false h
        first | (rw [List.length_map] at this) | (rw [List.length_nil] at this)
        omega
      subst hil
      clear h hi
      obtain ⟨xe', hxe'⟩ : ∃ r, bitAnd .i64 xe 255 = r := ⟨_, rfl⟩
      refine ⟨xe', hxe', ⟨_, rfl, rfl, rfl⟩, .inl fun p5 c5 S5 hS5 hr5 hpf5 => ?_⟩
      have hq5 : AsIs S5 (p5, (lowXs [] 0).length, c5) ((([] : List (Ex × Rc.Ev)).map (·.2)).map lowA) := by
        have e1 : lowXs [] 0 = [].map lowX := by first | rfl | (have := low_all []; rw [List.length_map] at this; exact this)
        have e2 : (lowXs [] 0).length = 0 := by rw [low_len]; first | rfl | exact List.length_map ..
        have hp5 := hpf5.1
        rw [e2] at hp5 ⊢
        exact low_as (fun z hz => (h5 z hz).le (Store.le_trans hS04 hS5)) hg1 hp5 (by first | (rw [← e1]; exact hr5) | exact hr5)
      have hbn : ((([] : List (Ex × Rc.Ev)).map (·.2)).map lowA).length ≤ 1000000000000000 := by rw [List.length_map, List.length_map]; exact Nat.le_trans (Nat.le_of_lt hn60) (by decide)
      have hms := made_spec S5 (p5, (lowXs [] 0).length, c5) _ hq5 hbn
      refine Exists.intro _ (Exists.intro _ (Exists.intro _ (And.intro hms ?_)))
      intro S6 z hS6 hz
      obtain ⟨z1, z2, zb⟩ := z
      obtain ⟨hz1, hz2, hz3⟩ := hz
      have hz1 : HIs S6 z1 (madeR ((([] : List (Ex × Rc.Ev)).map (·.2)).map lowA)) := hz1
      have hz3 : zb = true := hz3
      subst hz3
      obtain ⟨hpp, htl⟩ := back_parse hz1 hn60
      generalize madeR ((([] : List (Ex × Rc.Ev)).map (·.2)).map lowA) = l at *
      have hll := Rc.hist_len hz1.hs
      have hpl := Rc.pend_len l
      have hS06 : S.le S6 := Store.le_trans hS04 (Store.le_trans hS5 hS6)
      refine ⟨⟨_, rfl, rfl, rfl⟩, .inl ⟨_, _, _, text_spec S6 (hL.lt.le hS06) z1 _ hz1, fun S7 _ hS7 _ => ?_⟩⟩
      refine ⟨⟨_, rfl, rfl, rfl⟩, .inl ⟨_, _, _, hparse_spec S7 (hL.le (Store.le_trans hS06 hS7)) (Rc.textR l) (by omega), fun S8 k hS8 hk => ?_⟩⟩
      rw [hpp] at hk
      obtain ⟨k1, kn, ke⟩ := k
      have hk1 : HIs S8 k1 l := hk.1
      have hk2 : (kn, ke) = ((0 : Int), (0 : Int)) := hk.2
      obtain ⟨rfl, rfl⟩ := Prod.mk.inj hk2
      have h68 := Store.le_trans hS7 hS8
      refine ⟨or9_12, [], oF9_12, by kernel_rfl, ?_⟩
      refine offE rfl (offE rfl (offE rfl ?_))
      have hz8 := hz1.le h68
      refine ⟨⟨_, rfl, rfl, rfl⟩, .inl ⟨_, _, _, events_spec S8 k1 l hk1, fun S9 q9 hS9 hq9 => ?_⟩⟩
      refine ⟨⟨_, rfl, rfl, rfl⟩, .inl ⟨_, _, _, events_spec S9 z1 l (hz8.le hS9), fun S10 q10 hS10 hq10 => ?_⟩⟩
      refine ⟨⟨_, rfl, rfl, rfl⟩, .inl ⟨_, _, _, same_spec S10 q9 q10 l (hq9.le hS10) hq10 (by omega), fun S11 _ hS11 _ => ?_⟩⟩
      have h811 := Store.le_trans hS9 (Store.le_trans hS10 hS11)
      refine offE rfl ⟨⟨_, rfl, rfl, rfl⟩, .inl ⟨_, _, _, pending_spec S11 k1 l (hk1.le h811), fun S12 q12 hS12 hq12 => ?_⟩⟩
      refine ⟨⟨_, rfl, rfl, rfl⟩, .inl ⟨_, _, _, pending_spec S12 z1 l (hz8.le (Store.le_trans h811 hS12)), fun S13 q13 hS13 hq13 => ?_⟩⟩
      refine ⟨⟨_, rfl, rfl, rfl⟩, .inl ⟨_, _, _, equalP_spec S13 q12 q13 _ (hq12.le hS13) hq13 (by rw [List.length_map]; omega), fun S14 _ hS14 _ => ?_⟩⟩
      have h814 := Store.le_trans h811 (Store.le_trans hS12 (Store.le_trans hS13 hS14))
      have h014 : S.le S14 := Store.le_trans hS06 (Store.le_trans h68 h814)
      have hz14 := hz8.le h814
      have hk14 := hk1.le h814
      refine offE rfl ?_
      have hya : AIs S14 (xk, xt, xn, (xnm, xq), xe', xv) (lowA a) := by rw [← hxe']; exact low_is (hx.le h014) hg2
      refine ⟨or9_14, [6], oF9_14, by kernel_rfl, ?_⟩
      refine And.intro ⟨⟨_, rfl, rfl, rfl⟩, .inl ⟨_, _, _, events_spec S14 z1 l hz14, fun S15 q15 hS15 hq15 => And.intro ⟨⟨_, rfl, rfl, rfl⟩, .inl ⟨_, _, _, done_spec S15 z1 q15 l (hz14.le hS15) hq15 (xk, xt, xn, (xnm, xq), xe', xv) (lowA a) (hya.le hS15), fun S16 w1 hS16 hw1 => ?_⟩⟩ (And.intro ⟨⟨_, rfl, rfl, rfl⟩, .inl ⟨_, _, _, done_spec S15 z1 q15 l (hz14.le hS15) hq15 (xk, xt, xn, (xnm, xq), xe', xv) (lowA a) (hya.le hS15), fun S16 w1 hS16 hw1 => ?_⟩⟩ trivial)⟩⟩ (And.intro ⟨⟨_, rfl, rfl, rfl⟩, .inl ⟨_, _, _, events_spec S14 z1 l hz14, fun S15 q15 hS15 hq15 => ⟨⟨_, rfl, rfl, rfl⟩, .inl ⟨_, _, _, done_spec S15 z1 q15 l (hz14.le hS15) hq15 (xk, xt, xn, (xnm, xq), xe', xv) (lowA a) (hya.le hS15), fun S16 w1 hS16 hw1 => ?_⟩⟩⟩⟩ trivial)
      all_goals
        obtain ⟨v1, r1, b1⟩ := w1
        obtain ⟨hv1, -, hb1⟩ := hw1
        have hv1 : HIs S16 v1 (doneR l (lowA a)) := hv1
        have hb1 : b1 = true := hb1
        subst hb1
        have h1416 := Store.le_trans hS15 hS16
        have hk16 := hk14.le h1416
        have hyb := hya.le h1416
        refine ⟨or9_15, [7], oF9_15, by kernel_rfl, ?_⟩
        refine And.intro ⟨⟨_, rfl, rfl, rfl⟩, .inl ⟨_, _, _, events_spec S16 k1 l hk16, fun S17 q17 hS17 hq17 => And.intro ⟨⟨_, rfl, rfl, rfl⟩, .inl ⟨_, _, _, done_spec S17 k1 q17 l (hk16.le hS17) hq17 (xk, xt, xn, (xnm, xq), xe', xv) (lowA a) (hyb.le hS17), fun S18 w2 hS18 hw2 => ?_⟩⟩ (And.intro ⟨⟨_, rfl, rfl, rfl⟩, .inl ⟨_, _, _, done_spec S17 k1 q17 l (hk16.le hS17) hq17 (xk, xt, xn, (xnm, xq), xe', xv) (lowA a) (hyb.le hS17), fun S18 w2 hS18 hw2 => ?_⟩⟩ trivial)⟩⟩ (And.intro ⟨⟨_, rfl, rfl, rfl⟩, .inl ⟨_, _, _, events_spec S16 k1 l hk16, fun S17 q17 hS17 hq17 => ⟨⟨_, rfl, rfl, rfl⟩, .inl ⟨_, _, _, done_spec S17 k1 q17 l (hk16.le hS17) hq17 (xk, xt, xn, (xnm, xq), xe', xv) (lowA a) (hyb.le hS17), fun S18 w2 hS18 hw2 => ?_⟩⟩⟩⟩ trivial)
        all_goals
          obtain ⟨v2, r2, b2⟩ := w2
          obtain ⟨hv2, -, hb2⟩ := hw2
          have hv2 : HIs S18 v2 (doneR l (lowA a)) := hv2
          have hb2 : b2 = true := hb2
          subst hb2
          have h1618 := Store.le_trans hS17 hS18
          have hL18 := hL.lt.le (Store.le_trans h014 (Store.le_trans h1416 h1618))
          refine ⟨or9_16, [], oF9_16, by kernel_rfl, ?_⟩
          refine onE rfl (onE rfl ⟨⟨_, rfl, rfl, rfl⟩, .inl ⟨_, _, _, text_spec S18 hL18 v1 _ (hv1.le h1618), fun S19 _ hS19 _ => ?_⟩⟩)
          refine ⟨⟨_, rfl, rfl, rfl⟩, .inl ⟨_, _, _, text_spec S19 (hL18.le hS19) v2 _ (hv2.le hS19), fun S20 _ hS20 _ => ?_⟩⟩
          refine onE (isE rfl) ⟨⟨_, rfl, rfl, rfl⟩, .inl ⟨_, _, _, awake_spec S20 (hL18.le (Store.le_trans hS19 hS20)), fun S21 _ hS21 _ => ?_⟩⟩
          exact ⟨rfl, (), rfl, trivial⟩
  | some ad =>
    refine ⟨or9_1, [1, 2, 3], [1], by kernel_rfl, ?_⟩
    refine And.intro ⟨⟨_, rfl, rfl, rfl⟩, .inr (.inr (.inr (.inr (.inl ⟨_, _, _, _, hcl S (Store.le_refl _), fun S1 _ hS1 _ => ?_⟩))))⟩ (And.intro ⟨⟨_, rfl, rfl, rfl⟩, .inr (.inr (.inr (.inr (.inl ⟨_, _, _, _, hcl S (Store.le_refl _), fun S1 _ hS1 _ => ?_⟩))))⟩ trivial)
    · refine ⟨[(xk, xt, xn, (xnm, xq), xe, xv)], ?_, fun y _ => okA y, (by show ((L.map (·.1)).length + 1) * 80 ≤ 140737488355328; rw [List.length_map]; omega), ⟨_, rfl, rfl, rfl⟩, .inl fun p2 c2 S2 hS2 hr2 hpf2 => ⟨_, _, _, (by have := hgr S2 p2 c2 (Store.le_trans hS1 hS2) (by have := hpf2.1; rw [List.length_append, List.length_map] at this; exact this) hr2; rw [show L.length + 1 = (L.map (·.1) ++ [(xk, xt, xn, (xnm, xq), xe, xv)]).length by simp] at this; exact this), fun S3 _ hS3 _ => ?_⟩⟩
      · first | exact ⟨rfl, rfl⟩ | exact ⟨rfl, rfl, by decide⟩
      refine And.intro (fun hg => ?_) (fun hg => ?_)
      · exact ⟨⟨_, rfl, rfl, rfl⟩, .inl ⟨_, _, _, awake_spec S3 (hL.lt.le (Store.le_trans hS1 (Store.le_trans hS2 hS3))), fun S4 _ hS4 _ => ⟨rfl, (), rfl, trivial⟩⟩⟩
      obtain ⟨hn60, hg1, hg2⟩ := hgb hg
      clear hg
      refine ⟨⟨_, rfl, rfl, rfl⟩, .inr (.inr (.inr (.inr (.inl ⟨_, _, _, _, hcl S3 (Store.le_trans hS1 (Store.le_trans hS2 hS3)), fun S4 _ hS4 _ => ?_⟩))))⟩
      have hS04 : S.le S4 := Store.le_trans hS1 (Store.le_trans hS2 (Store.le_trans hS3 hS4))
      refine ⟨[], [], Nat, [5, 29, 30, 31, 32, 33, 34, 35, 36, 37, 38, 39, 40, 41], fun i => [(28, rI i)], fun i => [.box (shA.cs (xk, xt, xn, (xnm, xq), xe, xv)), .gone, .row shA 64 [(xk, xt, xn, (xnm, xq), xe, xv)], .row shA 64 (lowXs (L.map (·.1)) i)], fun _ => S4, fun i => i ≤ L.length, fun i => L.length - i, ?_⟩
      refine And.intro (Exists.intro 0 (And.intro (And.intro (And.intro ?_ rfl) (And.intro rfl (Store.le_refl _))) (Nat.zero_le _))) ?_
      · repeat' first | exact trivial | exact rfl | refine And.intro ?_ ?_
      rintro i hi
      have hi : i ≤ L.length := hi
      refine And.intro (fun h => ?_) (fun h => ?_)
      · have hil : i < L.length := by
          have : ((i : Nat) : Int) < ((((L.map (·.1)) : List Ex).length : Nat) : Int) := of_decide_eq_true h
          first | (rw [List.length_map] at this) | (rw [List.length_nil] at this)
          omega
        have i0 : (0 : Int) ≤ ((i : Nat) : Int) := Int.natCast_nonneg _
        obtain ⟨y, hy⟩ : ∃ y, ((L.map (·.1)) : List Ex)[i]? = some y := ⟨_, List.getElem?_eq_getElem (by first | exact hil | (rw [List.length_map]; exact hil))⟩
        have hlen : ((i : Nat) : Int) < (((lowXs (L.map (·.1)) i).length : Nat) : Int) := by rw [low_len]; first | (rw [List.length_map]; omega) | (exfalso; omega)
        refine ⟨i0, hlen, y, low_get hy, _, rfl, i0, hlen, y, lowX y, low_get hy, okA _, rfl, (by show 0 + 5 + 0 + 1 ≤ 7; decide), ?_⟩
        refine ⟨((i + 1 : Nat) : Int), wrap_i64 (by omega) (by omega), i + 1, ⟨⟨?_, rfl⟩, ?_, Store.le_refl _⟩, hil, by show L.length - (i + 1) < L.length - i; omega⟩
        · repeat' first | exact trivial | exact rfl | refine And.intro ?_ ?_
        · show [_, _, _, Res.row shA 64 ((lowXs (L.map (·.1)) i).set i (lowX y))] = _
          rw [low_set hy]
      have hil : i = L.length := by
        have : ¬ ((i : Nat) : Int) < ((((L.map (·.1)) : List Ex).length : Nat) : Int) := of_decide_eq_false h
        first | (rw [List.length_map] at this) | (rw [List.length_nil] at this)
        omega
      subst hil
      clear h hi
      obtain ⟨xe', hxe'⟩ : ∃ r, bitAnd .i64 xe 255 = r := ⟨_, rfl⟩
      refine ⟨xe', hxe', ⟨_, rfl, rfl, rfl⟩, .inl fun p5 c5 S5 hS5 hr5 hpf5 => ?_⟩
      have hq5 : AsIs S5 (p5, (lowXs (L.map (·.1)) L.length).length, c5) ((L.map (·.2)).map lowA) := by
        have e1 : lowXs (L.map (·.1)) L.length = (L.map (·.1)).map lowX := by first | rfl | (have := low_all (L.map (·.1)); rw [List.length_map] at this; exact this)
        have e2 : (lowXs (L.map (·.1)) L.length).length = L.length := by rw [low_len]; first | rfl | exact List.length_map ..
        have hp5 := hpf5.1
        rw [e2] at hp5 ⊢
        exact low_as (fun z hz => (h5 z hz).le (Store.le_trans hS04 hS5)) hg1 hp5 (by first | (rw [← e1]; exact hr5) | exact hr5)
      have hbn : ((L.map (·.2)).map lowA).length ≤ 1000000000000000 := by rw [List.length_map, List.length_map]; exact Nat.le_trans (Nat.le_of_lt hn60) (by decide)
      have hms := made_spec S5 (p5, (lowXs (L.map (·.1)) L.length).length, c5) _ hq5 hbn
      refine Exists.intro _ (Exists.intro _ (Exists.intro _ (And.intro hms ?_)))
      intro S6 z hS6 hz
      obtain ⟨z1, z2, zb⟩ := z
      obtain ⟨hz1, hz2, hz3⟩ := hz
      have hz1 : HIs S6 z1 (madeR ((L.map (·.2)).map lowA)) := hz1
      have hz3 : zb = true := hz3
      subst hz3
      obtain ⟨hpp, htl⟩ := back_parse hz1 hn60
      generalize madeR ((L.map (·.2)).map lowA) = l at *
      have hll := Rc.hist_len hz1.hs
      have hpl := Rc.pend_len l
      have hS06 : S.le S6 := Store.le_trans hS04 (Store.le_trans hS5 hS6)
      refine ⟨⟨_, rfl, rfl, rfl⟩, .inl ⟨_, _, _, text_spec S6 (hL.lt.le hS06) z1 _ hz1, fun S7 _ hS7 _ => ?_⟩⟩
      refine ⟨⟨_, rfl, rfl, rfl⟩, .inl ⟨_, _, _, hparse_spec S7 (hL.le (Store.le_trans hS06 hS7)) (Rc.textR l) (by omega), fun S8 k hS8 hk => ?_⟩⟩
      rw [hpp] at hk
      obtain ⟨k1, kn, ke⟩ := k
      have hk1 : HIs S8 k1 l := hk.1
      have hk2 : (kn, ke) = ((0 : Int), (0 : Int)) := hk.2
      obtain ⟨rfl, rfl⟩ := Prod.mk.inj hk2
      have h68 := Store.le_trans hS7 hS8
      refine ⟨or9_12, [], oF9_12, by kernel_rfl, ?_⟩
      refine offE rfl (offE rfl (offE rfl ?_))
      have hz8 := hz1.le h68
      refine ⟨⟨_, rfl, rfl, rfl⟩, .inl ⟨_, _, _, events_spec S8 k1 l hk1, fun S9 q9 hS9 hq9 => ?_⟩⟩
      refine ⟨⟨_, rfl, rfl, rfl⟩, .inl ⟨_, _, _, events_spec S9 z1 l (hz8.le hS9), fun S10 q10 hS10 hq10 => ?_⟩⟩
      refine ⟨⟨_, rfl, rfl, rfl⟩, .inl ⟨_, _, _, same_spec S10 q9 q10 l (hq9.le hS10) hq10 (by omega), fun S11 _ hS11 _ => ?_⟩⟩
      have h811 := Store.le_trans hS9 (Store.le_trans hS10 hS11)
      refine offE rfl ⟨⟨_, rfl, rfl, rfl⟩, .inl ⟨_, _, _, pending_spec S11 k1 l (hk1.le h811), fun S12 q12 hS12 hq12 => ?_⟩⟩
      refine ⟨⟨_, rfl, rfl, rfl⟩, .inl ⟨_, _, _, pending_spec S12 z1 l (hz8.le (Store.le_trans h811 hS12)), fun S13 q13 hS13 hq13 => ?_⟩⟩
      refine ⟨⟨_, rfl, rfl, rfl⟩, .inl ⟨_, _, _, equalP_spec S13 q12 q13 _ (hq12.le hS13) hq13 (by rw [List.length_map]; omega), fun S14 _ hS14 _ => ?_⟩⟩
      have h814 := Store.le_trans h811 (Store.le_trans hS12 (Store.le_trans hS13 hS14))
      have h014 : S.le S14 := Store.le_trans hS06 (Store.le_trans h68 h814)
      have hz14 := hz8.le h814
      have hk14 := hk1.le h814
      refine offE rfl ?_
      have hya : AIs S14 (xk, xt, xn, (xnm, xq), xe', xv) (lowA a) := by rw [← hxe']; exact low_is (hx.le h014) hg2
      refine ⟨or9_14, [6], oF9_14, by kernel_rfl, ?_⟩
      refine And.intro ⟨⟨_, rfl, rfl, rfl⟩, .inl ⟨_, _, _, events_spec S14 z1 l hz14, fun S15 q15 hS15 hq15 => And.intro ⟨⟨_, rfl, rfl, rfl⟩, .inl ⟨_, _, _, done_spec S15 z1 q15 l (hz14.le hS15) hq15 (xk, xt, xn, (xnm, xq), xe', xv) (lowA a) (hya.le hS15), fun S16 w1 hS16 hw1 => ?_⟩⟩ (And.intro ⟨⟨_, rfl, rfl, rfl⟩, .inl ⟨_, _, _, done_spec S15 z1 q15 l (hz14.le hS15) hq15 (xk, xt, xn, (xnm, xq), xe', xv) (lowA a) (hya.le hS15), fun S16 w1 hS16 hw1 => ?_⟩⟩ trivial)⟩⟩ (And.intro ⟨⟨_, rfl, rfl, rfl⟩, .inl ⟨_, _, _, events_spec S14 z1 l hz14, fun S15 q15 hS15 hq15 => ⟨⟨_, rfl, rfl, rfl⟩, .inl ⟨_, _, _, done_spec S15 z1 q15 l (hz14.le hS15) hq15 (xk, xt, xn, (xnm, xq), xe', xv) (lowA a) (hya.le hS15), fun S16 w1 hS16 hw1 => ?_⟩⟩⟩⟩ trivial)
      all_goals
        obtain ⟨v1, r1, b1⟩ := w1
        obtain ⟨hv1, -, hb1⟩ := hw1
        have hv1 : HIs S16 v1 (doneR l (lowA a)) := hv1
        have hb1 : b1 = true := hb1
        subst hb1
        have h1416 := Store.le_trans hS15 hS16
        have hk16 := hk14.le h1416
        have hyb := hya.le h1416
        refine ⟨or9_15, [7], oF9_15, by kernel_rfl, ?_⟩
        refine And.intro ⟨⟨_, rfl, rfl, rfl⟩, .inl ⟨_, _, _, events_spec S16 k1 l hk16, fun S17 q17 hS17 hq17 => And.intro ⟨⟨_, rfl, rfl, rfl⟩, .inl ⟨_, _, _, done_spec S17 k1 q17 l (hk16.le hS17) hq17 (xk, xt, xn, (xnm, xq), xe', xv) (lowA a) (hyb.le hS17), fun S18 w2 hS18 hw2 => ?_⟩⟩ (And.intro ⟨⟨_, rfl, rfl, rfl⟩, .inl ⟨_, _, _, done_spec S17 k1 q17 l (hk16.le hS17) hq17 (xk, xt, xn, (xnm, xq), xe', xv) (lowA a) (hyb.le hS17), fun S18 w2 hS18 hw2 => ?_⟩⟩ trivial)⟩⟩ (And.intro ⟨⟨_, rfl, rfl, rfl⟩, .inl ⟨_, _, _, events_spec S16 k1 l hk16, fun S17 q17 hS17 hq17 => ⟨⟨_, rfl, rfl, rfl⟩, .inl ⟨_, _, _, done_spec S17 k1 q17 l (hk16.le hS17) hq17 (xk, xt, xn, (xnm, xq), xe', xv) (lowA a) (hyb.le hS17), fun S18 w2 hS18 hw2 => ?_⟩⟩⟩⟩ trivial)
        all_goals
          obtain ⟨v2, r2, b2⟩ := w2
          obtain ⟨hv2, -, hb2⟩ := hw2
          have hv2 : HIs S18 v2 (doneR l (lowA a)) := hv2
          have hb2 : b2 = true := hb2
          subst hb2
          have h1618 := Store.le_trans hS17 hS18
          have hL18 := hL.lt.le (Store.le_trans h014 (Store.le_trans h1416 h1618))
          refine ⟨or9_16, [], oF9_16, by kernel_rfl, ?_⟩
          refine onE rfl (onE rfl ⟨⟨_, rfl, rfl, rfl⟩, .inl ⟨_, _, _, text_spec S18 hL18 v1 _ (hv1.le h1618), fun S19 _ hS19 _ => ?_⟩⟩)
          refine ⟨⟨_, rfl, rfl, rfl⟩, .inl ⟨_, _, _, text_spec S19 (hL18.le hS19) v2 _ (hv2.le hS19), fun S20 _ hS20 _ => ?_⟩⟩
          refine onE (isE rfl) ⟨⟨_, rfl, rfl, rfl⟩, .inl ⟨_, _, _, awake_spec S20 (hL18.le (Store.le_trans hS19 hS20)), fun S21 _ hS21 _ => ?_⟩⟩
          exact ⟨rfl, (), rfl, trivial⟩
    · refine ⟨[(xk, xt, xn, (xnm, xq), xe, xv)], ?_, fun y _ => okA y, (by show ((L.map (·.1)).length + 1) * 80 ≤ 140737488355328; rw [List.length_map]; omega), ⟨_, rfl, rfl, rfl⟩, .inl fun p2 c2 S2 hS2 hr2 hpf2 => ⟨_, _, _, (by have := hgr S2 p2 c2 (Store.le_trans hS1 hS2) (by have := hpf2.1; rw [List.length_append, List.length_map] at this; exact this) hr2; rw [show L.length + 1 = (L.map (·.1) ++ [(xk, xt, xn, (xnm, xq), xe, xv)]).length by simp] at this; exact this), fun S3 _ hS3 _ => ?_⟩⟩
      · first | exact ⟨rfl, rfl⟩ | exact ⟨rfl, rfl, by decide⟩
      refine And.intro (fun hg => ?_) (fun hg => ?_)
      · exact ⟨⟨_, rfl, rfl, rfl⟩, .inl ⟨_, _, _, awake_spec S3 (hL.lt.le (Store.le_trans hS1 (Store.le_trans hS2 hS3))), fun S4 _ hS4 _ => ⟨rfl, (), rfl, trivial⟩⟩⟩
      obtain ⟨hn60, hg1, hg2⟩ := hgb hg
      clear hg
      refine ⟨⟨_, rfl, rfl, rfl⟩, .inr (.inr (.inr (.inr (.inl ⟨_, _, _, _, hcl S3 (Store.le_trans hS1 (Store.le_trans hS2 hS3)), fun S4 _ hS4 _ => ?_⟩))))⟩
      have hS04 : S.le S4 := Store.le_trans hS1 (Store.le_trans hS2 (Store.le_trans hS3 hS4))
      refine ⟨[], [], Nat, [5, 29, 30, 31, 32, 33, 34, 35, 36, 37, 38, 39, 40, 41], fun i => [(28, rI i)], fun i => [.box (shA.cs (xk, xt, xn, (xnm, xq), xe, xv)), .row shA 64 [(xk, xt, xn, (xnm, xq), xe, xv)], .gone, .row shA 64 (lowXs (L.map (·.1)) i)], fun _ => S4, fun i => i ≤ L.length, fun i => L.length - i, ?_⟩
      refine And.intro (Exists.intro 0 (And.intro (And.intro (And.intro ?_ rfl) (And.intro rfl (Store.le_refl _))) (Nat.zero_le _))) ?_
      · repeat' first | exact trivial | exact rfl | refine And.intro ?_ ?_
      rintro i hi
      have hi : i ≤ L.length := hi
      refine And.intro (fun h => ?_) (fun h => ?_)
      · have hil : i < L.length := by
          have : ((i : Nat) : Int) < ((((L.map (·.1)) : List Ex).length : Nat) : Int) := of_decide_eq_true h
          first | (rw [List.length_map] at this) | (rw [List.length_nil] at this)
          omega
        have i0 : (0 : Int) ≤ ((i : Nat) : Int) := Int.natCast_nonneg _
        obtain ⟨y, hy⟩ : ∃ y, ((L.map (·.1)) : List Ex)[i]? = some y := ⟨_, List.getElem?_eq_getElem (by first | exact hil | (rw [List.length_map]; exact hil))⟩
        have hlen : ((i : Nat) : Int) < (((lowXs (L.map (·.1)) i).length : Nat) : Int) := by rw [low_len]; first | (rw [List.length_map]; omega) | (exfalso; omega)
        refine ⟨i0, hlen, y, low_get hy, _, rfl, i0, hlen, y, lowX y, low_get hy, okA _, rfl, (by show 0 + 5 + 0 + 1 ≤ 7; decide), ?_⟩
        refine ⟨((i + 1 : Nat) : Int), wrap_i64 (by omega) (by omega), i + 1, ⟨⟨?_, rfl⟩, ?_, Store.le_refl _⟩, hil, by show L.length - (i + 1) < L.length - i; omega⟩
        · repeat' first | exact trivial | exact rfl | refine And.intro ?_ ?_
        · show [_, _, _, Res.row shA 64 ((lowXs (L.map (·.1)) i).set i (lowX y))] = _
          rw [low_set hy]
      have hil : i = L.length := by
        have : ¬ ((i : Nat) : Int) < ((((L.map (·.1)) : List Ex).length : Nat) : Int) := of_decide_eq_false h
        first | (rw [List.length_map] at this) | (rw [List.length_nil] at this)
        omega
      subst hil
      clear h hi
      obtain ⟨xe', hxe'⟩ : ∃ r, bitAnd .i64 xe 255 = r := ⟨_, rfl⟩
      refine ⟨xe', hxe', ⟨_, rfl, rfl, rfl⟩, .inl fun p5 c5 S5 hS5 hr5 hpf5 => ?_⟩
      have hq5 : AsIs S5 (p5, (lowXs (L.map (·.1)) L.length).length, c5) ((L.map (·.2)).map lowA) := by
        have e1 : lowXs (L.map (·.1)) L.length = (L.map (·.1)).map lowX := by first | rfl | (have := low_all (L.map (·.1)); rw [List.length_map] at this; exact this)
        have e2 : (lowXs (L.map (·.1)) L.length).length = L.length := by rw [low_len]; first | rfl | exact List.length_map ..
        have hp5 := hpf5.1
        rw [e2] at hp5 ⊢
        exact low_as (fun z hz => (h5 z hz).le (Store.le_trans hS04 hS5)) hg1 hp5 (by first | (rw [← e1]; exact hr5) | exact hr5)
      have hbn : ((L.map (·.2)).map lowA).length ≤ 1000000000000000 := by rw [List.length_map, List.length_map]; exact Nat.le_trans (Nat.le_of_lt hn60) (by decide)
      have hms := made_spec S5 (p5, (lowXs (L.map (·.1)) L.length).length, c5) _ hq5 hbn
      refine Exists.intro _ (Exists.intro _ (Exists.intro _ (And.intro hms ?_)))
      intro S6 z hS6 hz
      obtain ⟨z1, z2, zb⟩ := z
      obtain ⟨hz1, hz2, hz3⟩ := hz
      have hz1 : HIs S6 z1 (madeR ((L.map (·.2)).map lowA)) := hz1
      have hz3 : zb = true := hz3
      subst hz3
      obtain ⟨hpp, htl⟩ := back_parse hz1 hn60
      generalize madeR ((L.map (·.2)).map lowA) = l at *
      have hll := Rc.hist_len hz1.hs
      have hpl := Rc.pend_len l
      have hS06 : S.le S6 := Store.le_trans hS04 (Store.le_trans hS5 hS6)
      refine ⟨⟨_, rfl, rfl, rfl⟩, .inl ⟨_, _, _, text_spec S6 (hL.lt.le hS06) z1 _ hz1, fun S7 _ hS7 _ => ?_⟩⟩
      refine ⟨⟨_, rfl, rfl, rfl⟩, .inl ⟨_, _, _, hparse_spec S7 (hL.le (Store.le_trans hS06 hS7)) (Rc.textR l) (by omega), fun S8 k hS8 hk => ?_⟩⟩
      rw [hpp] at hk
      obtain ⟨k1, kn, ke⟩ := k
      have hk1 : HIs S8 k1 l := hk.1
      have hk2 : (kn, ke) = ((0 : Int), (0 : Int)) := hk.2
      obtain ⟨rfl, rfl⟩ := Prod.mk.inj hk2
      have h68 := Store.le_trans hS7 hS8
      refine ⟨or9_12, [], oF9_12, by kernel_rfl, ?_⟩
      refine offE rfl (offE rfl (offE rfl ?_))
      have hz8 := hz1.le h68
      refine ⟨⟨_, rfl, rfl, rfl⟩, .inl ⟨_, _, _, events_spec S8 k1 l hk1, fun S9 q9 hS9 hq9 => ?_⟩⟩
      refine ⟨⟨_, rfl, rfl, rfl⟩, .inl ⟨_, _, _, events_spec S9 z1 l (hz8.le hS9), fun S10 q10 hS10 hq10 => ?_⟩⟩
      refine ⟨⟨_, rfl, rfl, rfl⟩, .inl ⟨_, _, _, same_spec S10 q9 q10 l (hq9.le hS10) hq10 (by omega), fun S11 _ hS11 _ => ?_⟩⟩
      have h811 := Store.le_trans hS9 (Store.le_trans hS10 hS11)
      refine offE rfl ⟨⟨_, rfl, rfl, rfl⟩, .inl ⟨_, _, _, pending_spec S11 k1 l (hk1.le h811), fun S12 q12 hS12 hq12 => ?_⟩⟩
      refine ⟨⟨_, rfl, rfl, rfl⟩, .inl ⟨_, _, _, pending_spec S12 z1 l (hz8.le (Store.le_trans h811 hS12)), fun S13 q13 hS13 hq13 => ?_⟩⟩
      refine ⟨⟨_, rfl, rfl, rfl⟩, .inl ⟨_, _, _, equalP_spec S13 q12 q13 _ (hq12.le hS13) hq13 (by rw [List.length_map]; omega), fun S14 _ hS14 _ => ?_⟩⟩
      have h814 := Store.le_trans h811 (Store.le_trans hS12 (Store.le_trans hS13 hS14))
      have h014 : S.le S14 := Store.le_trans hS06 (Store.le_trans h68 h814)
      have hz14 := hz8.le h814
      have hk14 := hk1.le h814
      refine offE rfl ?_
      have hya : AIs S14 (xk, xt, xn, (xnm, xq), xe', xv) (lowA a) := by rw [← hxe']; exact low_is (hx.le h014) hg2
      refine ⟨or9_14, [6], oF9_14, by kernel_rfl, ?_⟩
      refine And.intro ⟨⟨_, rfl, rfl, rfl⟩, .inl ⟨_, _, _, events_spec S14 z1 l hz14, fun S15 q15 hS15 hq15 => And.intro ⟨⟨_, rfl, rfl, rfl⟩, .inl ⟨_, _, _, done_spec S15 z1 q15 l (hz14.le hS15) hq15 (xk, xt, xn, (xnm, xq), xe', xv) (lowA a) (hya.le hS15), fun S16 w1 hS16 hw1 => ?_⟩⟩ (And.intro ⟨⟨_, rfl, rfl, rfl⟩, .inl ⟨_, _, _, done_spec S15 z1 q15 l (hz14.le hS15) hq15 (xk, xt, xn, (xnm, xq), xe', xv) (lowA a) (hya.le hS15), fun S16 w1 hS16 hw1 => ?_⟩⟩ trivial)⟩⟩ (And.intro ⟨⟨_, rfl, rfl, rfl⟩, .inl ⟨_, _, _, events_spec S14 z1 l hz14, fun S15 q15 hS15 hq15 => ⟨⟨_, rfl, rfl, rfl⟩, .inl ⟨_, _, _, done_spec S15 z1 q15 l (hz14.le hS15) hq15 (xk, xt, xn, (xnm, xq), xe', xv) (lowA a) (hya.le hS15), fun S16 w1 hS16 hw1 => ?_⟩⟩⟩⟩ trivial)
      all_goals
        obtain ⟨v1, r1, b1⟩ := w1
        obtain ⟨hv1, -, hb1⟩ := hw1
        have hv1 : HIs S16 v1 (doneR l (lowA a)) := hv1
        have hb1 : b1 = true := hb1
        subst hb1
        have h1416 := Store.le_trans hS15 hS16
        have hk16 := hk14.le h1416
        have hyb := hya.le h1416
        refine ⟨or9_15, [7], oF9_15, by kernel_rfl, ?_⟩
        refine And.intro ⟨⟨_, rfl, rfl, rfl⟩, .inl ⟨_, _, _, events_spec S16 k1 l hk16, fun S17 q17 hS17 hq17 => And.intro ⟨⟨_, rfl, rfl, rfl⟩, .inl ⟨_, _, _, done_spec S17 k1 q17 l (hk16.le hS17) hq17 (xk, xt, xn, (xnm, xq), xe', xv) (lowA a) (hyb.le hS17), fun S18 w2 hS18 hw2 => ?_⟩⟩ (And.intro ⟨⟨_, rfl, rfl, rfl⟩, .inl ⟨_, _, _, done_spec S17 k1 q17 l (hk16.le hS17) hq17 (xk, xt, xn, (xnm, xq), xe', xv) (lowA a) (hyb.le hS17), fun S18 w2 hS18 hw2 => ?_⟩⟩ trivial)⟩⟩ (And.intro ⟨⟨_, rfl, rfl, rfl⟩, .inl ⟨_, _, _, events_spec S16 k1 l hk16, fun S17 q17 hS17 hq17 => ⟨⟨_, rfl, rfl, rfl⟩, .inl ⟨_, _, _, done_spec S17 k1 q17 l (hk16.le hS17) hq17 (xk, xt, xn, (xnm, xq), xe', xv) (lowA a) (hyb.le hS17), fun S18 w2 hS18 hw2 => ?_⟩⟩⟩⟩ trivial)
        all_goals
          obtain ⟨v2, r2, b2⟩ := w2
          obtain ⟨hv2, -, hb2⟩ := hw2
          have hv2 : HIs S18 v2 (doneR l (lowA a)) := hv2
          have hb2 : b2 = true := hb2
          subst hb2
          have h1618 := Store.le_trans hS17 hS18
          have hL18 := hL.lt.le (Store.le_trans h014 (Store.le_trans h1416 h1618))
          refine ⟨or9_16, [], oF9_16, by kernel_rfl, ?_⟩
          refine onE rfl (onE rfl ⟨⟨_, rfl, rfl, rfl⟩, .inl ⟨_, _, _, text_spec S18 hL18 v1 _ (hv1.le h1618), fun S19 _ hS19 _ => ?_⟩⟩)
          refine ⟨⟨_, rfl, rfl, rfl⟩, .inl ⟨_, _, _, text_spec S19 (hL18.le hS19) v2 _ (hv2.le hS19), fun S20 _ hS20 _ => ?_⟩⟩
          refine onE (isE rfl) ⟨⟨_, rfl, rfl, rfl⟩, .inl ⟨_, _, _, awake_spec S20 (hL18.le (Store.le_trans hS19 hS20)), fun S21 _ hS21 _ => ?_⟩⟩
          exact ⟨rfl, (), rfl, trivial⟩
end Go.Proofs.YtpeehenohdlfdaaGreatDoor
