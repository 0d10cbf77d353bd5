/- law58: the judge's find. -/
import Derived.Test.YtpfghndflegbaaaDoorFo
namespace Go.Proofs.YtpfghndflegbaaaDoor
open Go Go.Vc Go.Sort
set_option maxRecDepth 100000
set_option maxHeartbeats 4000000

/-- The register's step, where D reads a call's arguments. -/
def stepE (D : Hd → List Int) (n : Int) (c : Cd) : Int × Ad := doE n c.1 (D c.2)
/-- The register as a Spec. -/
def regV : Value := .iface 29 (.agg #[])
/-- What the store knows of the calls. -/
structure Cx (S : Store) (D : Hd → List Int) (pc : Hd) (cs : Cs) : Prop where
  len : (cs.map clC).length = pc.2.1
  row : RowRd S pc.1 shC (cs.map clC)
  few : cs.length ≤ 1000000
  args : ∀ x ∈ cs, (D x.call.2).length = x.call.2.2.1 ∧ RowRd S x.call.2.1 shI (D x.call.2) ∧ ∀ a ∈ D x.call.2, inI64 a
  tab : Lw S
theorem Cx.le {S S' : Store} (h : S.le S') {D pc cs} (hs : Cx S D pc cs) : Cx S' D pc cs := ⟨hs.len, hs.row.le h, hs.few, fun x hx => ⟨(hs.args x hx).1, (hs.args x hx).2.1.le h, (hs.args x hx).2.2⟩, hs.tab.le h⟩
theorem Cx.srch {S : Store} {D pc cs} (h : Cx S D pc cs) {sb : Nat} {sp m : Value} (hrd : S.rd sb 0 [sp, slV pc, m]) : Srch S sb sp pc m cs := ⟨hrd, h.len, h.row, h.few⟩

/-- What find hands back: an order or none. -/
structure Fd where
  q : Hd
  ok : Bool
  es : Memos
theorem _root_.Go.Vc.Fresh.le {S S' : Store} (h : S.le S') {p : Option Addr} (hf : Fresh S' p) : Fresh S p := fun a e => by
  obtain ⟨h1, h2⟩ := hf a e
  refine ⟨fun i => ?_, ?_⟩
  · cases hc : S.c a.block i with
    | none => rfl
    | some z => have := h.1 _ _ _ hc; rw [h1 i] at this; cases this
  · cases hc : S.o a.block with
    | none => rfl
    | some z => have := h.2 _ _ hc; rw [h2] at this; cases this
def FPost (D : Hd → List Int) (cs : Cs) (st : Int) (pl : List Bool) (es : Memos) (S0 S' : Store) (x : Fd) : Prop :=
  (match Jd.ansS (stepE D) cs st pl with
    | some is => x.ok = true ∧ x.q.2.1 = is.length ∧ x.q.2.1 ≤ x.q.2.2 ∧ RowRd S' x.q.1 shI (is.map fun (n : Nat) => (n : Int)) ∧ is.length ≤ Jd.unpl pl ∧ Fresh S0 x.q.1
    | none => x.ok = false ∧ x.q = (none, 0, 0) ∧ ∀ z, Tried cs.length x.es z → Tried cs.length es z ∨ Jd.ansS (stepE D) cs z.1 z.2 = none)

theorem meth_do : Meth Tryd.prog 29 (.agg #[]) "Do" 20 (.agg #[]) := fun w => by kernel_rfl
theorem meth_first : Meth Tryd.prog 29 (.agg #[]) "First" 19 (.agg #[]) := fun w => by kernel_rfl
theorem neq_ad (a b : Ad) : (!((a.1 == b.1) && ((a.2 == b.2) && true))) = !decide (a = b) := by
  obtain ⟨a1, a2⟩ := a
  obtain ⟨b1, b2⟩ := b
  congr 1
  by_cases h1 : a1 = b1 <;> by_cases h2 : a2 = b2 <;> simp [h1, h2]
/-- What the search gives from call j on. -/
def candJ (D : Hd → List Int) (cs : Cs) (st : Int) (pl : List Bool) (j : Nat) : Option (List Nat) := match cs[j]? with
    | some x => if Jd.mayS cs pl j = true ∧ Jd.fitS x (stepE D st x.call).2 = true then (Jd.ansS (stepE D) cs (stepE D st x.call).1 (pl.set j true)).map (x.place :: ·) else none
    | none => none
theorem ans_cand (D : Hd → List Int) (cs : Cs) (st : Int) (pl : List Bool) : Jd.ansS (stepE D) cs st pl = if Jd.wholeS cs pl = true then some [] else (List.range cs.length).findSome? (candJ D cs st pl) := by
  rw [Jd.ans_step]
  split
  · rfl
  · congr 1
    funext j
    unfold candJ
    cases cs[j]? <;> rfl

theorem find_at {β : Type} {f : Nat → Option β} {n j : Nat} {v : β} (hj : j < n) (hn : ∀ k < j, f k = none) (hv : f j = some v) : (List.range n).findSome? f = some v := by
  induction n with
  | zero => omega
  | succ n ih =>
    rw [List.range_succ, List.findSome?_append]
    by_cases e : j = n
    · subst e
      rw [List.findSome?_eq_none_iff.2 fun k hk => hn k (List.mem_range.1 hk)]
      simp [hv]
    · rw [ih (by omega)]
      rfl

theorem find_spec (D : Hd → List Int) (pc : Hd) (cs : Cs) : ∀ (u : Nat) (S : Store) (_ : Cx S D pc cs) (st : Int) (_ : inI64 st) (pp : Hd) (pl : List Bool) (_ : pl.length = pp.2.1) (_ : RowRd S pp.1 .bool pl) (_ : pl.length = cs.length) (_ : Jd.unpl pl = u)
    (es : Memos) (_ : Jd.Memo (stepE D) cs (Tried cs.length es) u),
    SpecR Tryd.prog 40 S [.box [.v regV, .v (slV pc), .ref 1], .map shK .bool es] [.c (.ptr 0 0), rS (bs (Lib.itoa st)), .c (.v (slV pp))] (A := Fd) (fun x => .tup [(false, [.v (slV x.q)]), (false, [.v (.bool x.ok)])])
      (fun x => [.box [.v regV, .v (slV pc), .ref 1], .map shK .bool x.es]) (FPost D cs st pl es S) := by
  intro u
  induction u using Nat.strongRecOn with
  | ind u ih =>
  intro S hS st hst pp pl hpl hpr hlen hu es hM
  subst hu
  obtain ⟨p, n, c⟩ := pp
  simp only at hpl hpr
  subst hpl
  have hfew := hS.few
  have hclen : (cs.map clC).length = pc.2.1 := hS.len
  have hn : (cs.map clC).length = cs.length := List.length_map ..
  have hans := ans_cand D cs st pl
  refine specR_of_vc agrees Tryd.func40 rfl (fun S S' q hle h => ?_) ?_
  · unfold FPost at h ⊢
    cases ha : Jd.ansS (stepE D) cs st pl with
    | none => rw [ha] at h; exact h
    | some is => rw [ha] at h; exact ⟨h.1, h.2.1, h.2.2.1, h.2.2.2.1.le hle, h.2.2.2.2⟩
  refine ⟨⟨_, rfl, rfl, rfl⟩, .inr (.inr (.inl fun mb S1 hS1 hm1 sb S2 hS2 hrd2 => ⟨_, _, _, whole_spec S2 sb regV pc (.map (some mb)) cs (((hS.le hS1).le hS2).srch hrd2) (p, pl.length, c) pl rfl ((hpr.le hS1).le hS2) hlen, fun S3 w hS3 hw => ?_⟩))⟩
  obtain rfl : w = Jd.wholeS cs pl := hw
  cases hw : Jd.wholeS cs pl with
  | true =>
    rw [if_pos hw] at hans
    refine onT ⟨rfl, ⟨(none, 0, 0), true, es⟩, rfl, rfl, rfl, ?_⟩
    show FPost D cs st pl es S S ⟨(none, 0, 0), true, es⟩
    unfold FPost
    rw [hans]
    exact ⟨rfl, rfl, Nat.le_refl _, ⟨.inl rfl, fun _ h => by cases h⟩, Nat.zero_le _, fun a e => by cases e⟩
  | false =>
  rw [if_neg (by rw [hw]; simp)] at hans
  refine onF ?_
  refine ⟨[], [], Nat × ByteArray, [9, 10] ++ List.range' 26 13, fun a => [(25, rI a.1)], fun a => [.box [.v regV, .v (slV pc), .ref 1], .map shK .bool es, .box [.v (.string (bs (Lib.itoa st))), .v (.string a.2)]], fun _ => S, fun a => a.1 ≤ pl.length ∧ a.2 = bs (keyL 0 (pl.take a.1)), fun a => pl.length - a.1, ?_⟩
  refine And.intro (Exists.intro (0, ByteArray.empty) (And.intro (And.intro (And.intro ?_ rfl) (And.intro rfl (Store.le_refl _))) ⟨Nat.zero_le _, rfl⟩)) ?_
  · repeat' first | exact trivial | exact rfl | refine And.intro ?_ ?_
  rintro ⟨i, kb⟩ ⟨hi, hkb⟩
  have hi : i ≤ pl.length := hi
  have hkb : kb = bs (keyL 0 (pl.take i)) := hkb
  have i0 : (0 : Int) ≤ ((i : Nat) : Int) := Int.natCast_nonneg _
  refine And.intro (fun h => ?_) (fun h => ?_)
  · have hil : i < pl.length := by
      have : ((i : Nat) : Int) < ((pl.length : Nat) : Int) := of_decide_eq_true h
      omega
    obtain ⟨q, hq⟩ : ∃ q, pl[i]? = some q := ⟨_, List.getElem?_eq_getElem hil⟩
    obtain ⟨b, o, hp, hok, hrd⟩ := row_at hpr hq
    have htk : pl.take (i + 1) = pl.take i ++ [q] := by rw [List.take_add_one, hq]; rfl
    have hks : keyL 0 (pl.take (i + 1)) = keyL 0 (pl.take i) ++ (if q = true then Lib.itoa ((i : Nat) : Int) ++ [32] else []) := by
      rw [htk, keyL_snoc, List.length_take, Nat.min_eq_left (by omega), Nat.zero_add]
    have hkl := keyL_len (pl.take i) 0 (by rw [List.length_take]; omega)
    rw [List.length_take] at hkl
    refine ⟨i0, by show ((i : Nat) : Int) < (pl.length : Int); omega, b, o, hp, q, trivial, hrd, ?_⟩
    cases q with
    | true =>
      have hli := Txt.itoa_len (n := (i : Int)) (by omega) (by omega)
      refine onT ⟨or40_8, [2], oF40_8, by kernel_rfl, ⟨_, rfl, rfl, rfl⟩, .inl ⟨_, _, _, itoa_spec S hS.tab i ⟨by omega, by omega⟩, fun S1 _ hS1 _ => ?_⟩⟩
      have e : bs (keyL 0 (pl.take (i + 1))) = bs (keyL 0 (pl.take i)) ++ (bs (Lib.itoa ((i : Nat) : Int)) ++ bs [32]) := by rw [hks, if_pos rfl, bs_app, bs_app]
      refine ⟨?_, ?_, ((i + 1 : Nat) : Int), wrap_i64 (by omega) (by omega), (i + 1, kb ++ (bs (Lib.itoa ((i : Nat) : Int)) ++ bs [32])), ⟨⟨?_, rfl⟩, rfl, hS1⟩, ⟨hil, by show kb ++ _ = _; rw [hkb]; exact e.symm⟩, by show pl.length - (i + 1) < pl.length - i; omega⟩
      · show (bs (Lib.itoa ((i : Nat) : Int))).size + 1 ≤ _
        rw [bs_size]; omega
      · show kb.size + _ ≤ _
        rw [hkb, ByteArray.size_append, bs_size, bs_size]
        show _ + (_ + 1) ≤ _
        omega
      · repeat' first | exact trivial | exact rfl | refine And.intro ?_ ?_
    | false =>
      have e : bs (keyL 0 (pl.take (i + 1))) = bs (keyL 0 (pl.take i)) := by rw [hks]; simp
      refine onF ⟨((i + 1 : Nat) : Int), wrap_i64 (by omega) (by omega), (i + 1, kb), ⟨⟨?_, rfl⟩, rfl, Store.le_refl _⟩, ⟨hil, by show kb = _; rw [hkb]; exact e.symm⟩, by show pl.length - (i + 1) < pl.length - i; omega⟩
      repeat' first | exact trivial | exact rfl | refine And.intro ?_ ?_
  · have hil : i = pl.length := by
      have : ¬ ((i : Nat) : Int) < ((pl.length : Nat) : Int) := of_decide_eq_false h
      have hi : i ≤ pl.length := hi
      omega
    subst hil
    rw [List.take_length] at hkb
    subst hkb
    refine ⟨or40_10, [], oF40_10, by kernel_rfl, keyOf st pl, false, rfl, rfl, ?_⟩
    cases ht : (mget shK es (keyOf st pl)).getD false with
    | true =>
      refine onT ⟨rfl, ⟨(none, 0, 0), false, es⟩, rfl, rfl, rfl, ?_⟩
      show FPost D cs st pl es S S ⟨(none, 0, 0), false, es⟩
      unfold FPost
      rw [Jd.memo_hit hM ⟨hlen, ht⟩]
      exact ⟨rfl, rfl, fun z hz => .inl hz⟩
    | false =>
    refine onF ⟨or40_12, [1], oF40_12, by kernel_rfl, keyOf st pl, true, rfl, rfl, trivial, ?_⟩
    have hMu : ∃ u', u' + 1 = Jd.unpl pl := by
      rcases Nat.eq_zero_or_pos (Jd.unpl pl) with h0 | h0
      · have := Jd.whole_zero cs h0
        rw [hw] at this; cases this
      · exact ⟨Jd.unpl pl - 1, by omega⟩
    obtain ⟨u', hu'⟩ := hMu
    have hM1 : Jd.Memo (stepE D) cs (Tried cs.length (mset shK es (keyOf st pl) true)) u' := Jd.memo_add hM hu' (fun z hz => tried_add hlen hz)
    generalize hes1 : mset shK es (keyOf st pl) true = es1 at hM1
    refine ⟨[], [], Nat × Memos, [11, 12, 13, 14, 15, 16, 17] ++ List.range' 56 47, fun a => [(55, rI a.1)], fun a => [.box [.v regV, .v (slV pc), .ref 1], .map shK .bool a.2, .box (shK.cs (keyOf st pl))], fun _ => S,
      fun a => a.1 ≤ cs.length ∧ (∀ j < a.1, candJ D cs st pl j = none) ∧ ∀ z, Tried cs.length a.2 z → Tried cs.length es1 z ∨ Jd.ansS (stepE D) cs z.1 z.2 = none, fun a => cs.length - a.1, ?_⟩
    refine And.intro (Exists.intro (0, es1) (And.intro (And.intro (And.intro ?_ rfl) (And.intro ?_ (Store.le_refl _))) ⟨Nat.zero_le _, fun j h => absurd h (Nat.not_lt_zero _), fun z h => .inl h⟩)) ?_
    · repeat' first | exact trivial | exact rfl | refine And.intro ?_ ?_
    · rfl
    rintro ⟨i, esi⟩ ⟨hi, hnone, htr⟩
    have hi : i ≤ cs.length := hi
    have hnone : ∀ j < i, candJ D cs st pl j = none := hnone
    have htr : ∀ z, Tried cs.length esi z → Tried cs.length es1 z ∨ Jd.ansS (stepE D) cs z.1 z.2 = none := htr
    have i0 : (0 : Int) ≤ ((i : Nat) : Int) := Int.natCast_nonneg _
    refine And.intro (fun h => ?_) (fun h => ?_)
    · have hil : i < cs.length := by
        have : ((i : Nat) : Int) < ((pc.2.1 : Nat) : Int) := of_decide_eq_true h
        omega
      obtain ⟨x, hx⟩ : ∃ x, cs[i]? = some x := ⟨_, List.getElem?_eq_getElem hil⟩
      obtain ⟨b, o, hp, hok, hrd⟩ := row_at hS.row (map_at hx)
      refine ⟨i0, by show ((i : Nat) : Int) < ((pc.2.1 : Nat) : Int); omega, b, o, hp, clC x, hok, hrd, ?_⟩
      have hmu : cs.length - (i + 1) < cs.length - i := by omega
      have none1 : candJ D cs st pl i = none → ∀ j < i + 1, candJ D cs st pl j = none := by
        intro hc j hj
        by_cases e : j = i
        · rw [e]; exact hc
        · exact hnone j (by omega)
      have hcx : candJ D cs st pl i = if Jd.mayS cs pl i = true ∧ Jd.fitS x (stepE D st x.call).2 = true then (Jd.ansS (stepE D) cs (stepE D st x.call).1 (pl.set i true)).map (x.place :: ·) else none := by unfold candJ; rw [hx]
      refine ⟨⟨_, rfl, rfl, rfl⟩, .inr (.inr (.inl fun mb S1 hS1 hm1 sb S2 hS2 hrd2 => ⟨_, _, _, may_spec S2 sb regV pc (.map (some mb)) cs (((hS.le hS1).le hS2).srch hrd2) (p, pl.length, c) pl rfl ((hpr.le hS1).le hS2) hlen i x hx, fun S3 w hS3 hw => ?_⟩))⟩
      obtain rfl : w = Jd.mayS cs pl i := hw
      cases hm : Jd.mayS cs pl i with
      | false =>
        refine onT ⟨((i + 1 : Nat) : Int), wrap_i64 (by omega) (by omega), (i + 1, esi), ⟨⟨?_, rfl⟩, rfl, Store.le_refl _⟩, ⟨hil, none1 (by rw [hcx, if_neg (fun q => by rw [hm] at q; cases q.1)]), htr⟩, hmu⟩
        repeat' first | exact trivial | exact rfl | refine And.intro ?_ ?_
      | true =>
      have hxm := List.mem_of_getElem? hx
      obtain ⟨ha1, ha2, ha3⟩ := hS.args x hxm
      refine onF ⟨or40_17, [4], oF40_17, by kernel_rfl, ?_⟩
      refine And.intro ?_ (And.intro ?_ trivial)
      all_goals
        refine .inl ⟨20, .agg #[], meth_do, rfl, ⟨_, rfl, rfl, rfl⟩, .inl ⟨_, _, _, reg_spec S hS.tab st hst x.call.1 x.call.2 (D x.call.2) ha3 ha1 ha2, fun S4 _ hS4 _ => ?_⟩⟩
        have hstep : stepE D st x.call = doE st x.call.1 (D x.call.2) := rfl
        have h3 : x.ans = none ∨ (∃ y, x.ans = some y ∧ (doE st x.call.1 (D x.call.2)).2 = y) ∨ ∃ y, x.ans = some y ∧ (doE st x.call.1 (D x.call.2)).2 ≠ y := by
          cases x.ans with
          | none => exact .inl rfl
          | some y =>
            by_cases e : (doE st x.call.1 (D x.call.2)).2 = y
            · exact .inr (.inl ⟨y, rfl, e⟩)
            · exact .inr (.inr ⟨y, rfl, e⟩)
        have hanS : ∀ y, x.ans = some y → (clC x).2.2.2.1 = true ∧ (clC x).2.2.2.2 = y := fun y hy => ⟨by show x.ans.isSome = true; rw [hy]; rfl, by show x.ans.getD (0, 0) = y; rw [hy]; rfl⟩
        rcases h3 with ha | ⟨y, ha, hy⟩ | ⟨y, ha, hy⟩
        case' inr.inr =>
          refine onE (hanS y ha).1 (onE (by rw [neq_ad, (hanS y ha).2, decide_eq_false hy]; rfl) ⟨((i + 1 : Nat) : Int), wrap_i64 (by omega) (by omega), (i + 1, esi), ⟨⟨?_, rfl⟩, rfl, hS4⟩, ⟨hil, none1 ?_, htr⟩, hmu⟩)
          · repeat' first | exact trivial | exact rfl | refine And.intro ?_ ?_
          · rw [hcx, if_neg]
            rintro ⟨_, q⟩
            unfold Jd.fitS at q
            rw [ha, hstep] at q
            exact hy (of_decide_eq_true q)
        case' inl =>
          have hft : Jd.fitS x (stepE D st x.call).2 = true := by unfold Jd.fitS; rw [ha]
          refine offE (show x.ans.isSome = false by rw [ha]; rfl) (onF ?_)
        case' inr.inl =>
          have hft : Jd.fitS x (stepE D st x.call).2 = true := by unfold Jd.fitS; rw [ha]; exact decide_eq_true hy
          refine onE (hanS y ha).1 (offE (by rw [neq_ad, (hanS y ha).2, decide_eq_true hy]; rfl) ?_)
        all_goals
          have hcf : candJ D cs st pl i = (Jd.ansS (stepE D) cs (stepE D st x.call).1 (pl.set i true)).map (x.place :: ·) := by rw [hcx, if_pos ⟨hm, hft⟩]
          have hpi := Jd.may_free hm
          have hil2 : i < pl.length := by omega
          have hun := Jd.unpl_set hpi
          have hS4x := hS.le hS4
          refine ⟨⟨_, rfl, rfl, rfl⟩, .inr (.inr (.inr (.inr (.inl ⟨_, _, _, _, clone_spec S4 (p, pl.length, c) pl rfl (hpr.le hS4) (fun q => by rw [q] at hil2; simp at hil2) (by omega), fun S5 _ hS5 _ => ?_⟩))))⟩
          have hMi : Jd.Memo (stepE D) cs (Tried cs.length esi) u' := fun z hz => (htr z hz).elim (hM1 z) .inl
          refine ⟨i0, by show ((i : Nat) : Int) < ((pl.length : Nat) : Int); omega, false, true, hpi, trivial, rfl, Nat.le_refl _, ⟨_, rfl, rfl, rfl⟩, .inr (.inr (.inr (.inr (.inr (.inl ⟨[5], fun p6 c6 S6 hS6 hr6 hpf6 =>
            ⟨[0, 1], _, _, _, _, rfl, ih u' (by omega) S6 ((hS4x.le hS5).le hS6) (stepE D st x.call).1 (doE_in hst _ ha3) (p6, (pl.set i true).length, c6) (pl.set i true) rfl hr6 (by rw [List.length_set]; exact hlen) (by omega) esi hMi, fun S7 f hS7 hf => ?_⟩⟩)))))⟩
          obtain ⟨fq, fok, fes⟩ := f
          have hf : FPost D cs (stepE D st x.call).1 (pl.set i true) esi S6 S7 ⟨fq, fok, fes⟩ := hf
          unfold FPost at hf
          have hS7x := Store.le_trans hS4 (Store.le_trans hS5 (Store.le_trans hS6 hS7))
          cases han : Jd.ansS (stepE D) cs (stepE D st x.call).1 (pl.set i true) with
          | none =>
            rw [han] at hf hcf
            obtain ⟨rfl, hq, hz⟩ := hf
            refine onF ⟨((i + 1 : Nat) : Int), wrap_i64 (by omega) (by omega), (i + 1, fes), ⟨⟨?_, rfl⟩, rfl, hS7x⟩, ⟨hil, none1 hcf, fun z hz2 => (hz z hz2).elim (htr z) .inr⟩, hmu⟩
            repeat' first | exact trivial | exact rfl | refine And.intro ?_ ?_
          | some is =>
            rw [han] at hf hcf
            obtain ⟨rfl, hq1, hq2, hq3, hq4, -⟩ := hf
            have hfin : Jd.ansS (stepE D) cs st pl = some (x.place :: is) := by
              rw [hans]
              exact find_at hil hnone hcf
            have hul : Jd.unpl pl ≤ pl.length := List.count_le_length
            have hbd : is.length + 1 ≤ Jd.unpl pl := by omega
            have hll : (is.map fun (n : Nat) => (n : Int)).length = is.length := List.length_map ..
            refine onT ⟨is.map fun (n : Nat) => (n : Int), src_of (hq1.trans hll.symm) hq3, fun _ _ => trivial, ?_, ?_⟩
            · show (1 + (is.map fun (n : Nat) => (n : Int)).length) * 8 ≤ 140737488355328
              omega
            intro p8 c8 S8 hS8 hr8 hpf8
            refine ⟨rfl, ⟨(p8, (([((x.place : Nat) : Int)] ++ is.map fun (n : Nat) => (n : Int)) : List Int).length, c8), true, fes⟩, rfl, rfl, rfl, ?_⟩
            show FPost D cs st pl es S S8 ⟨(p8, (([((x.place : Nat) : Int)] ++ is.map fun (n : Nat) => (n : Int)) : List Int).length, c8), true, fes⟩
            unfold FPost
            rw [hfin]
            refine ⟨rfl, ?_, ?_, hr8, hbd, hpf8.2.le hS7x⟩
            · simp
            · rcases hpf8.1 with ⟨_, h1, h2⟩ | ⟨g, _, h2⟩
              · exact Nat.le_of_eq (h1.trans h2.symm)
              · exact h2
    · have hil : i = cs.length := by
        have : ¬ ((i : Nat) : Int) < ((pc.2.1 : Nat) : Int) := of_decide_eq_false h
        omega
      subst hil
      have hn : Jd.ansS (stepE D) cs st pl = none := by
        rw [hans]
        exact List.findSome?_eq_none_iff.2 fun j hj => hnone j (List.mem_range.1 hj)
      refine ⟨rfl, ⟨(none, 0, 0), false, esi⟩, rfl, rfl, rfl, ?_⟩
      show FPost D cs st pl es S S ⟨(none, 0, 0), false, esi⟩
      unfold FPost
      rw [hn]
      refine ⟨rfl, rfl, fun z hz => ?_⟩
      rcases htr z hz with h1 | h1
      · rw [← hes1] at h1
        rcases tried_add hlen h1 with h2 | rfl
        · exact .inl h2
        · exact .inr hn
      · exact .inr h1
end Go.Proofs.YtpfghndflegbaaaDoor
