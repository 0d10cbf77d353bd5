/- law09: all outcomes. All, Outcome. Outcome. -/
import Derived.Test.YtapblcfbmaikjaaGreatDoorGa
import Derived.Shelf.SlIter.Nil
namespace Go.Proofs.YtapblcfbmaikjaaGreatDoor
open Go Go.Vc Go.Sort Go.RowKit Go.Maps
set_option maxRecDepth 100000
set_option maxHeartbeats 8000000

abbrev Es := List (ByteArray × Bool)
theorem mset_keys (es : Es) (y : ByteArray) (z : ByteArray) : z ∈ (mset .str es y true).map (·.1) ↔ z ∈ es.map (·.1) ∨ z = y := by
  have := keys_mset (k := .str) rfl es y true
  rw [this]
  split
  · rename_i h
    constructor
    · exact .inl
    · rintro (q | rfl)
      · exact q
      · exact h
  · simp
theorem found_spec (S : Store) (es : Es) (s : ByteArray) : SpecR Tryz.prog 29 S [.map .str .bool es, .box [.ref 0]] [.c (.v (.string s)), .c (.ptr 1 0)] (A := Unit) (fun _ => .tup []) (fun _ => [.map .str .bool (mset .str es s true), .box [.ref 0]]) (fun _ _ => True) := by
  refine specR_of_vc agrees Tryz.func29 rfl (fun _ _ _ _ h => h) ?_
  refine ⟨s, true, rfl, rfl, trivial, ?_⟩
  exact ⟨rfl, (), rfl, rfl, rfl, trivial⟩
/-- The outcomes behind the first i threads. -/
def behind (T : List (List Li.Act)) (s : Li.St) (i : Nat) (z : ByteArray) : Prop := ∃ k, k < i ∧ ∃ c, c < Li.choicesS T s k ∧ ∃ o ∈ Li.outs T (Li.leftS T s - 1) (Li.stepS T s k (c : Nat)), z = bs o
theorem outs_behind {n : Nat} {T : List (List Li.Act)} {s : Li.St} (ho : Li.okS n T s) (hd : ¬ ∀ k, Li.actAt T s k = none) (z : ByteArray) : (∃ o ∈ Li.outs T (Li.leftS T s) s, z = bs o) ↔ behind T s T.length z := by
  obtain ⟨f, hf⟩ : ∃ f, Li.leftS T s = f + 1 := by
    cases h : Li.leftS T s with
    | zero => exact absurd (Li.left_zero ho h) hd
    | succ f => exact ⟨f, rfl⟩
  unfold behind
  rw [hf]
  have hnd : ¬ Li.doneS T s = true := fun q => hd (Li.done_iff.1 q)
  have e : Li.outs T (f + 1) s = (List.range T.length).flatMap fun k => (List.range (Li.choicesS T s k)).flatMap fun c : Nat => Li.outs T f (Li.stepS T s k c) := by
    show (if Li.doneS T s then _ else _) = _
    rw [if_neg hnd]
  rw [e]
  constructor
  · rintro ⟨o, ho, rfl⟩
    obtain ⟨k, hk, ho⟩ := List.mem_flatMap.1 ho
    obtain ⟨c, hc, ho⟩ := List.mem_flatMap.1 ho
    exact ⟨k, List.mem_range.1 hk, c, List.mem_range.1 hc, o, ho, rfl⟩
  · rintro ⟨k, hk, c, hc, o, ho, rfl⟩
    exact ⟨o, List.mem_flatMap.2 ⟨k, List.mem_range.2 hk, List.mem_flatMap.2 ⟨c, List.mem_range.2 hc, ho⟩⟩, rfl⟩
def AllSpec (T : List (List Li.Act)) (S : Store) (x : Rx) (r : Li.Rn) (es : Es) : Prop :=
  SpecR Tryz.prog 28 S [.map .str .bool es, .box [.ref 0]] [rR x, .c (.clo 29 [.inl 1])] (A := Es) (fun _ => .tup []) (fun es' => [.map .str .bool es', .box [.ref 0]]) (fun _ es' => keysOnce (k := .str) es' ∧ (∀ z, z ∈ es'.map (·.1) ↔ z ∈ es.map (·.1) ∨ ∃ o ∈ Li.outs T (Li.leftS T r.s) r.s, z = bs o) ∧ ∀ o ∈ Li.outs T (Li.leftS T r.s) r.s, o.length ≤ 10000000)
/-- The outcomes of the first c choices of thread k. -/
def choice (T : List (List Li.Act)) (s : Li.St) (k c : Nat) (z : ByteArray) : Prop := ∃ c', c' < c ∧ ∃ o ∈ Li.outs T (Li.leftS T s - 1) (Li.stepS T s k (c' : Nat)), z = bs o
theorem behind_succ {T : List (List Li.Act)} {s : Li.St} {i : Nat} {z : ByteArray} : behind T s (i + 1) z ↔ behind T s i z ∨ choice T s i (Li.choicesS T s i) z := by
  unfold behind choice
  constructor
  · rintro ⟨k, hk, c, hc, h⟩
    by_cases e : k = i
    · subst e; exact .inr ⟨c, hc, h⟩
    · exact .inl ⟨k, by omega, c, hc, h⟩
  · rintro (⟨k, hk, c, hc, h⟩ | ⟨c, hc, h⟩)
    · exact ⟨k, by omega, c, hc, h⟩
    · exact ⟨i, by omega, c, hc, h⟩
theorem choice_succ {T : List (List Li.Act)} {s : Li.St} {k c : Nat} {z : ByteArray} : choice T s k (c + 1) z ↔ choice T s k c z ∨ ∃ o ∈ Li.outs T (Li.leftS T s - 1) (Li.stepS T s k (c : Nat)), z = bs o := by
  unfold choice
  constructor
  · rintro ⟨c', hc, h⟩
    by_cases e : c' = c
    · subst e; exact .inr h
    · exact .inl ⟨c', by omega, h⟩
  · rintro (⟨c', hc, h⟩ | h)
    · exact ⟨c', by omega, h⟩
    · exact ⟨c, by omega, h⟩
theorem all_body (T : List (List Li.Act)) (n : Nat) (hoT : Li.okT n T) (hn0 : 0 < n) (hn : n ≤ 8) (hT1 : 0 < T.length) (hT8 : T.length ≤ 8) (h8 : ∀ l ∈ T, l.length ≤ 8) (S : Store) (hLt : Lt S) (x : Rx) (r : Li.Rn) (b : Nat) (es : Es) (hx : RunIs S x T r b) (ho : Li.okR n T r) (hb : b ≤ 5000) (he : ∀ k, k < T.length → r.ends.getD k true = false) (hes : keysOnce (k := .str) es)
    (hrec : ∀ (S' : Store) (y : Rx) (r' : Li.Rn) (es' : Es), Lt S' → RunIs S' y T r' (b + 1) → Li.okR n T r' → Li.leftS T r'.s + 1 = Li.leftS T r.s → (∀ k, k < T.length → r'.ends.getD k true = false) → keysOnce (k := .str) es' → AllSpec T S' y r' es') : AllSpec T S x r es := by
  have hdl := ho.s.dl
  have hd1 := hx.did.1
  have hhb : ∀ l : Nat, (Li.hist r.s.m l).length ≤ b + 1 := fun l => by
    unfold Li.hist
    by_cases hl : l < r.s.m.ms.length
    · exact hx.hs _ (Li.getD_mem hl)
    · rw [List.getD_eq_getElem?_getD, List.getElem?_eq_none (by omega)]; exact Nat.zero_le _
  have hnone := fun (S' : Store) (hS : S.le S') (t : Int) ht ha => act_none_spec S' x T r b n (hx.le hS) ho hT8 t ht ha
  have hsome := fun (S' : Store) (hS : S.le S') (k : Nat) (a : Li.Act) ha => act_some_spec S' x T r b n (hx.le hS) ho hT8 k a ha
  have hcho := fun (S' : Store) (hS : S.le S') (k : Nat) (a : Li.Act) ha => choices_spec S' x T r b n (hx.le hS) ho hoT hn hT8 (by omega) k a ha
  have hstep := fun (S' : Store) (hS : S.le S') (t : Int) ht (c : Int) hc => step_spec S' (hLt.le hS) x T r b n (hx.le hS) ho hoT hn hT8 h8 (by omega) t ht c hc
  have htext := fun (S' : Store) (hS : S.le S') => otext_spec S' (hLt.le hS) x T r b n (hx.le hS) ho hn0 hn hT1 hT8 (by omega)
  have hact : ∀ k, k < T.length → Li.actR T r k = Li.actAt T r.s k := fun k hk => by unfold Li.actR; rw [he k hk]; rfl
  obtain ⟨⟨⟨z1, z2, z3⟩, ⟨tq, tn, tc⟩⟩, ⟨⟨⟨p, np, c1⟩, ⟨p2, n2, c2⟩⟩, ⟨⟨⟨fp, fn, fc⟩, ⟨p3, n3, c3⟩, b3⟩, ⟨⟨sp, sn, sc⟩, ei⟩⟩⟩, ⟨dp, dn, dc⟩, ⟨ep, en, ec⟩, ⟨op, on', oc⟩⟩ := x
  have hd1 : dn = T.length := hd1.trans hdl
  subst hd1
  refine specR_of_vc agrees Tryz.func28 rfl (fun _ _ _ _ h => h) ?_
  refine ⟨[], [], Nat × Bool × Es, [6, 7, 8] ++ List.range' 9 29, fun z => [(4, rB z.2.1), (5, rI ((z.1 : Int) + 1))], fun z => [.map .str .bool z.2.2, .box [.ref 0], .box (cR (((z1, z2, z3), (tq, tn, tc)), (((p, np, c1), (p2, n2, c2)), (((fp, fn, fc), (p3, n3, c3), b3), ((sp, sn, sc), ei))), (dp, T.length, dc), (ep, en, ec), (op, on', oc)))], fun _ => S,
    fun z => z.1 ≤ T.length ∧ keysOnce (k := .str) z.2.2 ∧ (z.2.1 = true ↔ ∀ k, k < z.1 → Li.actAt T r.s k = none) ∧ (∀ y, y ∈ z.2.2.map (·.1) ↔ y ∈ es.map (·.1) ∨ behind T r.s z.1 y) ∧ ∀ y, behind T r.s z.1 y → y.size ≤ 10000000, fun z => T.length - z.1, ?_⟩
  refine And.intro (Exists.intro (0, true, es) (And.intro (And.intro (And.intro ?_ rfl) (And.intro rfl (Store.le_refl _))) ⟨Nat.zero_le _, hes, ⟨fun _ k hk => absurd hk (Nat.not_lt_zero _), fun _ => rfl⟩, fun y => ⟨.inl, fun h => h.elim id fun ⟨k, hk, _⟩ => absurd hk (Nat.not_lt_zero _)⟩, fun y ⟨k, hk, _⟩ => absurd hk (Nat.not_lt_zero _)⟩)) ?_
  · repeat' first | exact trivial | exact rfl | refine And.intro ?_ ?_
  rintro ⟨i, rest, cur⟩ ⟨hi, hco, hrest, hcur, hcurB⟩
  simp only at hi hco hrest hcur hcurB
  refine And.intro (fun h1 => ?_) (fun h1 => ?_)
  · have h1 : (i : Int) + 1 ≤ ((T.length : Nat) : Int) := of_decide_eq_true h1
    have hiT : i < T.length := by omega
    have wi : IntKind.i64.wrap ((i : Int) + 1 + 1) = (((i + 1 : Nat) : Int) + 1) := by rw [wrap_i64 (by omega) (by omega)]; omega
    cases ha : Li.actAt T r.s i with
    | none =>
      refine ⟨⟨_, rfl, rfl, rfl⟩, .inl ⟨_, _, _, hnone S (Store.le_refl _) ((i : Int) + 1) ⟨by omega, by omega⟩ (fun _ => by rw [show ((i : Int) + 1 - 1).toNat = i by omega, hact i hiT]; exact ha), fun S1 _ hS1 _ => onT ?_⟩⟩
      have hc0 : Li.choicesS T r.s i = 0 := by unfold Li.choicesS; rw [ha]
      refine ⟨_, wi, (i + 1, rest, cur), ⟨⟨?_, rfl⟩, rfl, hS1⟩, ⟨hiT, hco, ?_, fun y => ?_, fun y hy => (behind_succ.1 hy).elim (hcurB y) fun ⟨c, hc, _⟩ => by rw [hc0] at hc; exact absurd hc (Nat.not_lt_zero _)⟩, by show T.length - (i + 1) < T.length - i; omega⟩
      · repeat' first | exact trivial | exact rfl | refine And.intro ?_ ?_
      · rw [hrest]
        constructor
        · intro h k hk
          by_cases e : k = i
          · rw [e]; exact ha
          · exact h k (by omega)
        · exact fun h k hk => h k (by omega)
      · rw [hcur, behind_succ]
        constructor
        · rintro (h | h)
          · exact .inl h
          · exact .inr (.inl h)
        · rintro (h | h | ⟨c, hc, _⟩)
          · exact .inl h
          · exact .inr h
          · rw [hc0] at hc; exact absurd hc (Nat.not_lt_zero _)
    | some a =>
      have haR : Li.actR T r i = some a := by rw [hact i hiT]; exact ha
      have hcl : Li.choicesS T r.s i ≤ 100001 := by
        unfold Li.choicesS
        rw [ha]
        show (if _ then _ else _) ≤ _
        split
        · have := hhb a.loc.toNat
          exact Nat.le_trans (Nat.sub_le _ _) (by omega)
        · decide
      have hsa := hsome S (Store.le_refl _) i a haR
      obtain ⟨ao, al, ⟨a1, a2, a3⟩, a4, a5, a6⟩ := a
      refine ⟨⟨_, rfl, rfl, rfl⟩, .inl ⟨_, _, _, hsa, fun S1 _ hS1 _ => onF ?_⟩⟩
      refine ⟨⟨_, rfl, rfl, rfl⟩, .inl ⟨_, _, _, hcho S1 hS1 i ⟨ao, al, (a1, a2, a3), a4, a5, a6⟩ ha, fun S2 _ hS2 _ => ?_⟩⟩
      have hS02 := Store.le_trans hS1 hS2
      refine ⟨[], [], Nat × Es, [8] ++ List.range' 29 9, fun z => [(28, rI z.1)], fun z => [.map .str .bool z.2, .box [.ref 0], .box (cR (((z1, z2, z3), (tq, tn, tc)), (((p, np, c1), (p2, n2, c2)), (((fp, fn, fc), (p3, n3, c3), b3), ((sp, sn, sc), ei))), (dp, T.length, dc), (ep, en, ec), (op, on', oc))), .box (cAct ⟨ao, al, (a1, a2, a3), a4, a5, a6⟩)], fun _ => S2,
        fun z => z.1 ≤ Li.choicesS T r.s i ∧ keysOnce (k := .str) z.2 ∧ (∀ y, y ∈ z.2.map (·.1) ↔ y ∈ cur.map (·.1) ∨ choice T r.s i z.1 y) ∧ ∀ y, choice T r.s i z.1 y → y.size ≤ 10000000, fun z => Li.choicesS T r.s i - z.1, ?_⟩
      refine And.intro (Exists.intro (0, cur) (And.intro (And.intro (And.intro ?_ rfl) (And.intro rfl (Store.le_refl _))) ⟨Nat.zero_le _, hco, fun y => ⟨.inl, fun h => h.elim id fun ⟨k, hk, _⟩ => absurd hk (Nat.not_lt_zero _)⟩, fun y ⟨k, hk, _⟩ => absurd hk (Nat.not_lt_zero _)⟩)) ?_
      · repeat' first | exact trivial | exact rfl | refine And.intro ?_ ?_
      rintro ⟨c, cc⟩ ⟨hc, hcco, hcc, hccB⟩
      simp only at hc hcco hcc hccB
      refine And.intro (fun h2 => ?_) (fun h2 => ?_)
      · have h2 : (c : Int) < ((Li.choicesS T r.s i : Nat) : Int) := of_decide_eq_true h2
        have hclt : c < Li.choicesS T r.s i := by omega
        refine ⟨⟨_, rfl, rfl, rfl⟩, .inl ⟨_, _, _, hstep S2 hS02 ((i : Int) + 1) ⟨by omega, by omega⟩ (c : Int) ⟨by omega, by omega⟩, fun S3 y hS3 hy => ?_⟩⟩
        have e : stepI T r ((i : Int) + 1) (c : Int) = Li.stepR T r i (c : Int) := by
          unfold stepI; rw [if_pos (by omega), show ((i : Int) + 1 - 1).toNat = i by omega]
        rw [e] at hy
        have hsr : (Li.stepR T r i (c : Int)).s = Li.stepS T r.s i (c : Int) := by unfold Li.stepR; rw [haR]
        have hse : (Li.stepR T r i (c : Int)).ends = r.ends := by unfold Li.stepR; rw [haR]
        have hls := Li.left_step ho.s ha (c : Int)
        have hsp := hrec S3 y (Li.stepR T r i (c : Int)) cc (hLt.le (Store.le_trans hS02 hS3)) hy (Li.stepR_ok hoT ho i (c : Int)) (by rw [hsr]; exact hls) (by rw [hse]; exact he) hcco
        unfold AllSpec at hsp
        refine ⟨⟨_, rfl, rfl, rfl⟩, .inr (.inl ⟨[0, 1], _, _, _, _, rfl, hsp, fun S4 cn hS4 hcn => ?_⟩)⟩
        refine ⟨((c + 1 : Nat) : Int), wrap_i64 (by omega) (by omega), (c + 1, cn), ⟨⟨?_, rfl⟩, rfl, Store.le_trans hS3 hS4⟩, ⟨hclt, hcn.1, fun y => ?_, fun y hy => (choice_succ.1 hy).elim (hccB y) fun ⟨o, ho', e'⟩ => ?_⟩, by show Li.choicesS T r.s i - (c + 1) < Li.choicesS T r.s i - c; omega⟩
        · repeat' first | exact trivial | exact rfl | refine And.intro ?_ ?_
        · have hl2 : Li.leftS T (Li.stepS T r.s i (c : Int)) = Li.leftS T r.s - 1 := by omega
          have h := hcn.2.1 y
          rw [hsr, hl2] at h
          rw [h, hcc, choice_succ, or_assoc]
        · have hl2 : Li.leftS T (Li.stepS T r.s i (c : Int)) = Li.leftS T r.s - 1 := by omega
          have h := hcn.2.2 o
          rw [hsr, hl2] at h
          rw [e', bs_size]; exact h ho'
      · have h2 : ¬ (c : Int) < ((Li.choicesS T r.s i : Nat) : Int) := of_decide_eq_false h2
        have hce : c = Li.choicesS T r.s i := by omega
        subst hce
        refine ⟨_, wi, (i + 1, false, cc), ⟨⟨?_, rfl⟩, rfl, hS02⟩, ⟨hiT, hcco, ?_, fun y => ?_, fun y hy => (behind_succ.1 hy).elim (hcurB y) (hccB y)⟩, by show T.length - (i + 1) < T.length - i; omega⟩
        · repeat' first | exact trivial | exact rfl | refine And.intro ?_ ?_
        · exact ⟨fun q => (by cases q), fun h => (by have := h i (Nat.lt_succ_self i); rw [ha] at this; cases this)⟩
        · rw [hcc, hcur, behind_succ, or_assoc]
  · have h1 : ¬ (i : Int) + 1 ≤ ((T.length : Nat) : Int) := of_decide_eq_false h1
    have hiT : i = T.length := by omega
    subst hiT
    have hall : (∀ k, k < T.length → Li.actAt T r.s k = none) ↔ ∀ k, Li.actAt T r.s k = none := by
      refine ⟨fun h k => ?_, fun h k _ => h k⟩
      cases ha : Li.actAt T r.s k with
      | none => rfl
      | some a => have := h k (Li.act_some ha).1; rw [ha] at this; cases this
    cases rest with
    | true =>
      have hd := hall.1 (hrest.1 rfl)
      refine onT ⟨⟨_, rfl, rfl, rfl⟩, .inl ⟨_, _, _, htext S (Store.le_refl _), fun S1 _ hS1 htB => ?_⟩⟩
      refine ⟨⟨_, rfl, rfl, rfl⟩, .inr (.inl ⟨[0, 1], _, _, _, _, rfl, found_spec S1 cur (bs (Li.textR r)), fun S2 _ hS2 _ => ?_⟩)⟩
      refine ⟨rfl, mset .str cur (bs (Li.textR r)) true, rfl, rfl, rfl, once_mset rfl hco _ _, fun y => ?_, fun o ho => by rw [Li.outs_done hd] at ho; rw [List.mem_singleton.1 ho]; exact htB⟩
      rw [mset_keys, hcur, Li.outs_done hd]
      have hb0 : ¬ behind T r.s T.length y := fun ⟨k, hk, c, hc, _⟩ => by
        have : Li.choicesS T r.s k = 0 := by unfold Li.choicesS; rw [hd k]
        rw [this] at hc; exact absurd hc (Nat.not_lt_zero _)
      constructor
      · rintro ((h | h) | h)
        · exact .inl h
        · exact absurd h hb0
        · exact .inr ⟨_, List.mem_singleton.2 rfl, h⟩
      · rintro (h | ⟨o, ho, h⟩)
        · exact .inl (.inl h)
        · rw [List.mem_singleton.1 ho] at h; exact .inr h
    | false =>
      have hd : ¬ ∀ k, Li.actAt T r.s k = none := fun q => by have := hrest.2 fun k _ => q k; cases this
      refine onF ⟨rfl, cur, rfl, rfl, rfl, hco, fun y => ?_, fun o ho' => by have := hcurB (bs o) ((outs_behind ho.s hd (bs o)).1 ⟨o, ho', rfl⟩); rw [bs_size] at this; exact this⟩
      rw [hcur, outs_behind ho.s hd]
theorem all_spec (T : List (List Li.Act)) (n : Nat) (hoT : Li.okT n T) (hn0 : 0 < n) (hn : n ≤ 8) (hT1 : 0 < T.length) (hT8 : T.length ≤ 8) (h8 : ∀ l ∈ T, l.length ≤ 8) : ∀ (f : Nat) (S : Store) (_ : Lt S) (x : Rx) (r : Li.Rn) (b : Nat) (es : Es) (_ : RunIs S x T r b) (_ : Li.okR n T r) (_ : Li.leftS T r.s = f) (_ : b + f ≤ 5000) (_ : ∀ k, k < T.length → r.ends.getD k true = false) (_ : keysOnce (k := .str) es), AllSpec T S x r es := by
  intro f
  induction f with
  | zero =>
    intro S hLt x r b es hx ho hf hb he hes
    exact all_body T n hoT hn0 hn hT1 hT8 h8 S hLt x r b es hx ho (by omega) he hes fun S' y r' es' _ _ _ hl _ _ => by omega
  | succ f ih =>
    intro S hLt x r b es hx ho hf hb he hes
    exact all_body T n hoT hn0 hn hT1 hT8 h8 S hLt x r b es hx ho (by omega) he hes fun S' y r' es' hL hy hor hl he' hes' => ih S' hL y r' (b + 1) es' hy hor (by omega) (by omega) he' hes'
end Go.Proofs.YtapblcfbmaikjaaGreatDoor
namespace Go.Proofs.YtapblcfbmaikjaaGreatDoor
open Go Go.Vc Go.Sort Go.RowKit Go.Maps
set_option maxRecDepth 100000
set_option maxHeartbeats 8000000

/-- A map of the store with strings as keys, in the kit's words. -/
theorem owns_str {P : Program} {S : Store} {w : World} {b k : Nat} {es : Es} (hk : P.underlying k = some .string) (hm : MapRd S (some b) .str .bool es) (hS : S.le (Store.of w)) (hr : ∀ p ∈ es, p.1.size ≤ maxLen) (hl : es.length ≤ maxLen) (hnd : (es.map (·.1)).Nodup) :
    ∃ D : DataW Unit, w.ownsMap P k (fun _ => some (.nil, [])) b es.length D ∧ (strKeys D).Perm (es.map (·.1.data.toList)) ∧ Maps.size D = es.length := by
  obtain ⟨ents, clock, h1, h2, h3, h4, h5⟩ := hm
  have hb : w.heap[b]? = some (.map ents clock) := hS.2 _ _ h1
  have hlen : ents.size = es.length := by
    have := congrArg List.length h2
    simpa using this
  have hkey : ∀ x ∈ ents.toList, ∃ p ∈ es, x.key = .string p.1 := by
    intro x hx
    have hmem : (x.key, x.val) ∈ es.map (fun p => (Shape.str.val p.1, Shape.bool.val p.2)) := by
      rw [← h2]; exact List.mem_map.2 ⟨x, hx, rfl⟩
    obtain ⟨p, hp, he⟩ := List.mem_map.1 hmem
    exact ⟨p, hp, (Prod.mk.inj he).1.symm⟩
  have hrd : ∀ x ∈ ents.toList, WideElems.rd P k (fun _ => some ((.nil : DataW Unit), [])) x = some ((match x.key with | .string s => Lit.string s.data.toList | _ => Lit.bool false), (.nil : DataW Unit)) := by
    intro x hx
    obtain ⟨p, hp, he⟩ := hkey x hx
    have hw := hr p hp
    have hko : keyOf P k (.string p.1) = some (.string p.1.data.toList) := by simp only [keyOf, hk, mapKey, if_pos hw]
    simp only [WideElems.rd, he, hko, Option.bind_some, Option.map_some]
  refine ⟨.map ((ents.toList.map (WideElems.rg P k fun _ => some (.nil, []))).foldr DataW.insert []), ⟨ents, clock, hb, ⟨by omega, ?_, fun x hx => ⟨_, hrd x hx⟩⟩, by omega, rfl⟩, ?_, ?_⟩
  · refine ⟨fun x hx => h5 x hx, h4, ?_⟩
    have h6 := congrArg (List.map (·.1)) h2
    rw [List.map_map, List.map_map] at h6
    have e1 : ents.toList.map (fun x => x.key) = (es.map (·.1)).map Value.string := by
      rw [List.map_map]; exact h6
    rw [e1]
    exact List.pairwise_map.2 (hnd.imp fun {a b} hab h => hab (by simpa using h))
  · show (((ents.toList.map (WideElems.rg P k fun _ => some (.nil, []))).foldr DataW.insert []).map fun p => Go.strOf p.1).Perm _
    refine ((foldr_insert_perm _).map _).trans ?_
    rw [List.map_map]
    have : ents.toList.map ((fun p : Lit × DataW Unit => Go.strOf p.1) ∘ WideElems.rg P k fun _ => some (.nil, [])) = es.map (·.1.data.toList) := by
      have h6 := congrArg (List.map fun p : Value × Value => match p.1 with | .string s => s.data.toList | _ => []) h2
      rw [List.map_map, List.map_map] at h6
      have e1 : es.map ((fun p : Value × Value => match p.1 with | .string s => s.data.toList | _ => []) ∘ fun p => (Shape.str.val p.1, Shape.bool.val p.2)) = es.map (·.1.data.toList) := List.map_congr_left fun p _ => rfl
      rw [e1] at h6
      rw [← h6]
      refine List.map_congr_left fun x hx => ?_
      obtain ⟨p, hp, he⟩ := hkey x hx
      simp only [Function.comp, WideElems.rg, hrd x hx, Option.getD_some, he, Go.strOf]
    rw [this]
  · show ((ents.toList.map (WideElems.rg P k fun _ => some (.nil, []))).foldr DataW.insert []).length = es.length
    rw [(foldr_insert_perm _).length_eq]
    simp [hlen]
def keysB (es : Es) : List Li.Bs := es.map fun p => p.1.data.toList
theorem sortsA (m : Nat) : AnyZ.SortsIn Tryz.prog Tryz.laySorted_ren Fence.wide m :=
  ⟨fun blk off cap ss W hH hblk hsz => callsIn_wide.2 (AnyM.slices_Sort_string Tryz.laySort blk off cap ss W hH hblk hsz),
   fun p cap W => callsIn_wide.2 (AnyM.slices_Sort_string_none Tryz.laySort p cap W)⟩
theorem cell_of {S : Store} {w : World} {b : Nat} {v : Value} (hS : S.le (Store.of w)) (h : S.rd b 0 [v]) : w.cell? ⟨b, 0, none⟩ = some v ∧ b < w.heap.size := by
  have h1 : w.cell? ⟨b, 0, none⟩ = some v := hS.1 b 0 v (h 0 v rfl)
  refine ⟨h1, ?_⟩
  rcases Nat.lt_or_ge b w.heap.size with h2 | h2
  · exact h2
  · simp [World.cell?, Array.getElem?_eq_none h2] at h1
theorem keys_spec (S : Store) (b : Option Nat) : SpecN Tryz.prog 31 S [.map b] (A := Unit) (fun _ => .c (.clo 50 [Sum.inl 0])) (fun _ => [.box [.v (.map b)]]) (fun _ _ => True) :=
  specN_keys (T := 62) fun w => callsIn_wide.1 (AnyZ.keys_in Tryz.layKeys Fence.wide 5 trivial rfl b w)
theorem encs_strs (xs : List ByteArray) : Shape.str.encs xs = (xs.map (·.data.toList)).map encStr := by
  induction xs with
  | nil => rfl
  | cons x xs ih => simp only [Shape.encs, List.flatMap_cons, List.map_cons] at ih ⊢; rw [ih]; rfl
theorem sorted_keys_spec (S : Store) (b : Nat) (es : Es) (Bm : Nat) (hB : S.rd Bm 0 [.map (some b)]) (hm : MapRd S (some b) .str .bool es) (hnd : keysOnce (k := .str) es) (hr : ∀ p ∈ es, p.1.size ≤ maxLen) (hl : es.length ≤ 1000000000000) :
    SpecN Tryz.prog 30 S [.func (.func 50) #[] #[.pointer (some ⟨Bm, 0, none⟩)]] (A := Unit) (fun _ => .c (.ref 0)) (fun _ => [.row .str 9 ((Li.sortK (keysB es)).map bs)]) (fun _ _ => True) := by
  intro w hS
  obtain ⟨D, hown, hperm, hsize⟩ := owns_str (k := 9) Tryz.underlying9 hm hS hr (by unfold maxLen; omega) hnd
  obtain ⟨hc, hlt⟩ := cell_of hS hB
  have hseq : SeqGives Fence.wide 2 Tryz.prog 50 #[.pointer (some ⟨Bm, 0, none⟩)] encStr (fun ss => ss.Perm (strKeys D)) (Maps.size D) w :=
    AnyZ.keys_gives (ρ := Tryz.layKeys_ren) { Tryz.layKeys with } Fence.wide _ trivial rfl (by omega) Bm b es.length D w hlt hc hown
  have cS := AnyZ.sorted_in Tryz.laySorted Fence.wide 5 trivial trivial trivial trivial rfl (by omega) (sortsA _) (enters_of Tryz.func49 (by kernel_rfl) rfl) 50 #[.pointer (some ⟨Bm, 0, none⟩)] trivial (enters_of Tryz.func50 (by kernel_rfl) rfl) _ _ (by rw [hsize]; unfold maxLen; omega) (by rw [hsize]; omega) w hseq
  change CallsIn _ _ Tryz.prog 30 _ _ _ at cS
  refine (callsIn_wide.1 cS).mono ?_
  rintro e w' ⟨v, ss, rfl, hS2, hrow, hnil, hb⟩
  have hk : ss.mergeSort (fun x y => decide (x ≤ y)) = Li.sortK (keysB es) := mergeSort_of_perm (hS2.trans hperm)
  rw [hk] at hrow
  have hlen : ss.length = ((Li.sortK (keysB es)).map bs).length := by rw [List.length_map, ← hk]; simp
  have hone : v.oneCell' = true := by
    rcases hrow.2 with ⟨rfl, -⟩ | ⟨_, _, _, rfl, -⟩ <;> rfl
  have henc : Shape.str.encs ((Li.sortK (keysB es)).map bs) = (Li.sortK (keysB es)).map encStr := by
    rw [encs_strs, List.map_map, List.map_map]
    rfl
  have hst := (Stab.none hS).addG (w' := w') hb.block hb.size hb.os hb.tape hb.output (.row .str 9 ((Li.sortK (keysB es)).map bs)) v (fun b hbb => by
    rcases hrow.2 with ⟨rfl, -⟩ | ⟨g, cap, cur, rfl, hg, hc, -⟩
    · cases hbb
    · simp only [Res.foot, blk, Option.some.injEq] at hbb
      subst hbb
      exact ⟨hg, (Array.getElem?_eq_some_iff.1 hc).1⟩) ⟨by
        show w'.ownsRow 0 9 1 v _ (Shape.str.encs _)
        rw [henc, ← hlen]
        refine ⟨hrow.1, ?_⟩
        rcases hrow.2 with h2 | ⟨g, cap, cur, h3, hg, h4⟩
        · exact .inl h2
        · exact .inr ⟨g, cap, cur, h3, Nat.zero_le _, h4⟩, fun _ _ => trivial⟩
  exact ⟨v, (), S, [v], rfl, ⟨rfl, hone⟩, hst, Store.le_refl _, fun _ _ => ⟨fun _ => rfl, rfl⟩, trivial⟩
theorem nodup_len {α : Type} [DecidableEq α] : ∀ {l m : List α}, l.Nodup → (∀ x ∈ l, x ∈ m) → l.length ≤ m.length
  | [], _, _, _ => Nat.zero_le _
  | a :: l, m, hn, hs => by
    have ha : a ∈ m := hs a (List.mem_cons_self ..)
    rw [List.nodup_cons] at hn
    have ih := nodup_len (m := m.erase a) hn.2 fun x hx => (List.mem_erase_of_ne (fun e => hn.1 (by rw [← e]; exact hx))).2 (hs x (List.mem_cons_of_mem _ hx))
    have := List.length_erase_of_mem ha
    have := List.length_pos_of_mem ha
    rw [List.length_cons]; omega
theorem sum_le {α : Type} (g : α → Nat) (M : Nat) : ∀ l : List α, (∀ x ∈ l, g x ≤ M) → (l.map g).sum ≤ l.length * M
  | [], _ => by simp
  | x :: l, h => by
    have := sum_le g M l fun y hy => h y (List.mem_cons_of_mem _ hy)
    have h0 := h x (List.mem_cons_self ..)
    rw [List.map_cons, List.sum_cons, List.length_cons, Nat.succ_mul]; omega
theorem outs_len (T : List (List Li.Act)) (hT4 : T.length ≤ 4) : ∀ (f : Nat) (s : Li.St) (B : Nat), (∀ h ∈ s.m.ms, h.length ≤ B) → B + f ≤ 8 → (Li.outs T f s).length ≤ 32 ^ f
  | 0, _, _, _, _ => Nat.le_refl _
  | f + 1, s, B, hB, hf => by
    have pos : 1 ≤ 32 ^ f := Nat.pos_of_ne_zero fun q => by have := Nat.pow_eq_zero.1 q; omega
    show (if Li.doneS T s then [Li.textS s] else (List.range T.length).flatMap fun k => (List.range (Li.choicesS T s k)).flatMap fun c : Nat => Li.outs T f (Li.stepS T s k c)).length ≤ _
    have hh : ∀ l : Nat, (Li.hist s.m l).length ≤ B := fun l => by
      unfold Li.hist
      by_cases hl : l < s.m.ms.length
      · exact hB _ (Li.getD_mem hl)
      · rw [List.getD_eq_getElem?_getD, List.getElem?_eq_none (by omega)]; exact Nat.zero_le _
    split
    · show 1 ≤ _; rw [Nat.pow_succ]; omega
    · rw [List.length_flatMap]
      have h1 : ∀ k ∈ List.range T.length, ((List.range (Li.choicesS T s k)).flatMap fun c : Nat => Li.outs T f (Li.stepS T s k c)).length ≤ 8 * 32 ^ f := fun k _ => by
        rw [List.length_flatMap]
        have h2 := sum_le (fun c : Nat => (Li.outs T f (Li.stepS T s k c)).length) (32 ^ f) (List.range (Li.choicesS T s k)) fun c _ => outs_len T hT4 f _ (B + 1) (fun h hm => by
          unfold Li.stepS at hm
          split at hm
          · exact Nat.le_succ_of_le (hB h hm)
          · rename_i a _
            exact do_hist hB k a c h hm) (by omega)
        rw [List.length_range] at h2
        have h3 : Li.choicesS T s k ≤ 8 := by
          unfold Li.choicesS
          split
          · decide
          · rename_i a _
            split
            · exact Nat.le_trans (Nat.sub_le _ _) (Nat.le_trans (hh _) (by omega))
            · decide
        exact Nat.le_trans h2 (Nat.mul_le_mul_right _ h3)
      have h4 := sum_le (fun k => ((List.range (Li.choicesS T s k)).flatMap fun c : Nat => Li.outs T f (Li.stepS T s k c)).length) (8 * 32 ^ f) (List.range T.length) h1
      rw [List.length_range] at h4
      have h5 := Nat.mul_le_mul_right (8 * 32 ^ f) hT4
      rw [Nat.pow_succ]; omega
theorem left_size (T : List (List Li.Act)) (s : Li.St) : Li.leftS T s ≤ Li.sizeT T := by
  unfold Li.leftS Li.sizeT
  have e : T.map List.length = (List.range T.length).map fun k => (T.getD k []).length := by
    apply List.ext_getElem?
    intro i
    rw [List.getElem?_map, List.getElem?_map]
    by_cases hi : i < T.length
    · rw [List.getElem?_eq_getElem hi, List.getElem?_range hi]
      simp [List.getD_eq_getElem?_getD, List.getElem?_eq_getElem hi]
    · rw [List.getElem?_eq_none (by omega), List.getElem?_eq_none (by rw [List.length_range]; omega)]; rfl
  rw [e]
  have : ∀ l : List Nat, (l.map fun k => (T.getD k []).length - s.did.getD k 0).sum ≤ (l.map fun k => (T.getD k []).length).sum := fun l => by
    induction l with
    | nil => exact Nat.le_refl _
    | cons x l ih => rw [List.map_cons, List.map_cons, List.sum_cons, List.sum_cons]; omega
  exact this _
def allS (first : List Li.Wd) (T : List (List Li.Act)) : List Li.Bs := if Li.checkT first T = 0 then Li.putAll [] (Li.allT first T) else []
theorem keys_all {es : Es} {xs : List Li.Bs} (hn : keysOnce (k := .str) es) (h : ∀ z, z ∈ es.map (·.1) ↔ ∃ o ∈ xs, z = bs o) : Li.sortK (keysB es) = Li.putAll [] xs := by
  refine Li.keys_eq ?_ fun z => ?_
  · unfold keysB
    have hn : (es.map (·.1)).Nodup := hn
    have : es.map (fun p => p.1.data.toList) = (es.map (·.1)).map fun b : ByteArray => b.data.toList := by rw [List.map_map]; rfl
    rw [this]
    exact List.pairwise_map.2 (hn.imp fun {a b} hab e => hab (by rw [← data_bs a, e, data_bs]))
  · unfold keysB
    constructor
    · intro hz
      obtain ⟨p, hp, rfl⟩ := List.mem_map.1 hz
      obtain ⟨o, ho, e⟩ := (h p.1).1 (List.mem_map_of_mem hp)
      rw [e]; exact ho
    · intro hz
      obtain ⟨p, hp, e⟩ := List.mem_map.1 ((h (bs z)).2 ⟨z, hz, rfl⟩)
      exact List.mem_map.2 ⟨p, hp, by rw [e]; rfl⟩
theorem oall_spec (S : Store) (hLt : Lt S) (x : Tz) (first : List Li.Wd) (T : List (List Li.Act)) (hx : TestIs S x first T) (hn8 : first.length ≤ 8) (hT8 : T.length ≤ 8) (h8 : ∀ l ∈ T, l.length ≤ 8) :
    Pure Tryz.prog 13 S [vT x] (A := Hd) (fun q => .tup [(false, [.v (slV q)]), (false, [.v (.int .i64 (Li.checkT first T))])]) (fun S' q => SsIs S' q (allS first T)) := by
  have hck := ocheck_spec S x first T hx hn8 hT8 h8
  have hbeg := fun (S' : Store) (hS : S.le S') => begin_spec S' x first T (hx.le hS)
  obtain ⟨⟨fp, fn, fc⟩, ⟨p, n, c⟩⟩ := x
  obtain ⟨e, he⟩ : ∃ e, e = Li.checkT first T := ⟨_, rfl⟩
  rw [← he] at hck ⊢
  refine pure_vc agrees Tryz.func13 rfl rfl (fun S S' q hle h => h.le hle) ?_
  refine ⟨⟨_, rfl, rfl, rfl⟩, .inl ⟨_, _, _, hck, fun S1 _ hS1 _ => ?_⟩⟩
  by_cases h0 : e = 0
  · refine offE (bne_eq_false_iff_eq.2 h0) ?_
    have hg := Li.check_good.1 (he.symm.trans h0)
    have hlf : Li.leftS T (Li.beginR first T).s ≤ 6 := Nat.le_trans (left_size T _) hg.sz
    refine ⟨⟨_, rfl, rfl, rfl⟩, .inl ⟨_, _, _, hbeg S1 hS1 (by have := hg.f1; omega) hn8 (by have := hg.t1; omega) hT8, fun S2 y hS2 hy => ?_⟩⟩
    have hall := all_spec T first.length hg.ok (by have := hg.f1; omega) hn8 (by have := hg.t1; omega) hT8 h8 _ S2 (hLt.le (Store.le_trans hS1 hS2)) y (Li.beginR first T) 0 [] hy (Li.beginR_ok first T) rfl (by omega) (Li.ends_false first T) List.nodup_nil
    unfold AllSpec at hall
    refine ⟨⟨_, rfl, rfl, rfl⟩, .inr (.inl ⟨[1, 2], _, _, _, _, rfl, hall, fun S3 es hS3 hes => ?_⟩)⟩
    obtain ⟨hes1, hes2, hes3⟩ := hes
    have hmem : ∀ z, z ∈ es.map (·.1) ↔ ∃ o ∈ Li.allT first T, z = bs o := fun z => by
      have := hes2 z
      simp only [List.map_nil, List.not_mem_nil, false_or] at this
      exact this
    have hlen : es.length ≤ 1000000000000 := by
      have h1 : (es.map (·.1)).length ≤ ((Li.allT first T).map bs).length := nodup_len hes1 fun z hz => by
        obtain ⟨o, ho, rfl⟩ := (hmem z).1 hz
        exact List.mem_map_of_mem ho
      rw [List.length_map, List.length_map] at h1
      have h2 : (Li.allT first T).length ≤ 32 ^ Li.leftS T (Li.beginS first T) := outs_len T hg.t4 _ _ 1 (fun h hh => by
        obtain ⟨w, -, rfl⟩ := List.mem_map.1 hh
        exact Nat.le_refl _) (by have : Li.leftS T (Li.beginS first T) ≤ 6 := hlf; omega)
      have h3 : 32 ^ Li.leftS T (Li.beginS first T) ≤ 32 ^ 6 := Nat.pow_le_pow_right (by decide) hlf
      have h4 : (32 : Nat) ^ 6 = 1073741824 := by decide
      omega
    have hsz : ∀ p ∈ es, p.1.size ≤ maxLen := fun p hp => by
      obtain ⟨o, ho, e'⟩ := (hmem p.1).1 (List.mem_map_of_mem hp)
      have := hes3 o ho
      rw [e', bs_size]; unfold maxLen; omega
    refine ⟨⟨_, rfl, rfl, rfl⟩, .inr (.inr (.inr (.inr (.inl fun b' S4 hS4 hm4 => ⟨_, _, _, _, keys_spec S4 (some b'), fun S5 _ hS5 _ => ?_⟩))))⟩
    refine ⟨⟨_, rfl, rfl, rfl⟩, .inr (.inr (.inr (.inr (.inl fun Bm S6 hS6 hrd => ⟨_, _, _, _, sorted_keys_spec S6 b' es Bm hrd.1 ((hm4.1.le hS5).le hS6) hes1 hsz hlen, fun S7 _ hS7 _ => ?_⟩))))⟩
    intro p8 c8 S8 hS8 hr8 hpf8
    have hk := keys_all hes1 hmem
    refine ⟨rfl, (p8, ((Li.sortK (keysB es)).map bs).length, c8), by rw [h0]; rfl, ?_⟩
    have ea : allS first T = Li.sortK (keysB es) := by unfold allS; rw [if_pos (he.symm.trans h0), hk]
    rw [ea]
    refine ⟨List.length_map .., ?_, hr8⟩
    have := pform_le hpf8.1
    rw [List.length_map] at this; exact this
  · refine onE (bne_iff_ne.2 h0) ⟨rfl, (none, 0, 0), rfl, ?_⟩
    have ea : allS first T = [] := by unfold allS; rw [if_neg (fun q => h0 (he.trans q))]
    rw [ea]
    exact ⟨rfl, Nat.le_refl _, .inl rfl, fun x hx => by cases hx⟩
end Go.Proofs.YtapblcfbmaikjaaGreatDoor
namespace Go.Proofs.YtapblcfbmaikjaaGreatDoor
open Go Go.Vc Go.Sort Go.RowKit Go.Maps
set_option maxRecDepth 100000
set_option maxHeartbeats 8000000

structure PksIs (S : Store) (q : Hd) (l : List Li.Pk) : Prop where
  len : q.2.1 = l.length
  cap : l.length ≤ q.2.2
  row : RowRd S q.1 shP l
  ok : ∀ p ∈ l, inI64 p.1 ∧ inI64 p.2.1 ∧ inI64 p.2.2
theorem PksIs.le {S S' : Store} (h : S.le S') {q l} (hx : PksIs S q l) : PksIs S' q l := ⟨hx.len, hx.cap, hx.row.le h, hx.ok⟩
def outS (first : List Li.Wd) (T : List (List Li.Act)) (l : List Li.Pk) : Li.Bs := if Li.checkT first T = 0 then Li.outcomeR first T l else []
/-- Some steps of one thread. -/
def reps (k j : Nat) : List Li.Pk := (List.range j).map fun _ => ((0 : Int), (k : Int) + 1, (0 : Int))
def tails (k : Nat) : List Li.Pk := (List.range k).flatMap fun k => reps k 6
theorem reps_succ (k j : Nat) : reps k (j + 1) = reps k j ++ [((0 : Int), (k : Int) + 1, (0 : Int))] := by unfold reps; rw [List.range_succ, List.map_append]; rfl
theorem tails_succ (k : Nat) : tails (k + 1) = tails k ++ reps k 6 := by unfold tails; rw [List.range_succ, List.flatMap_append]; simp
@[reducible] def rSE (s : Li.Bs) (e : Int) : SV := .tup [(false, [.v (.string (bs s))]), (false, [.v (.int .i64 e)])]
theorem outc_spec (S : Store) (hLt : Lt S) (x : Tz) (first : List Li.Wd) (T : List (List Li.Act)) (hx : TestIs S x first T) (hn8 : first.length ≤ 8) (hT8 : T.length ≤ 8) (h8 : ∀ l ∈ T, l.length ≤ 8) (q : Hd) (l : List Li.Pk) (hq : PksIs S q l) (hl : l.length ≤ 200) :
    Pure Tryz.prog 20 S [vT x, slV q] (A := Unit) (fun _ => rSE (outS first T l) (Li.checkT first T)) (fun _ _ => True) := by
  have hck := ocheck_spec S x first T hx hn8 hT8 h8
  have hbeg := fun (S' : Store) (hS : S.le S') => begin_spec S' x first T (hx.le hS)
  have htl := hx.t.len
  have hql := hq.len
  obtain ⟨⟨fp, fn, fc⟩, ⟨p, n, c⟩⟩ := x
  have htl : n = T.length := htl
  subst htl
  obtain ⟨qp, qn, qc⟩ := q
  have hql : qn = l.length := hql
  subst hql
  have hqr : RowRd S qp shP l := hq.row
  obtain ⟨e, he⟩ : ∃ e, e = Li.checkT first T := ⟨_, rfl⟩
  have hos : outS first T l = if e = 0 then Li.outcomeR first T l else [] := by unfold outS; rw [he]
  rw [← he] at hck
  rw [← he, hos]
  refine pure_vc agrees Tryz.func20 rfl rfl (fun S S' q hle h => h) ?_
  refine ⟨⟨_, rfl, rfl, rfl⟩, .inl ⟨_, _, _, hck, fun S1 _ hS1 _ => ?_⟩⟩
  by_cases h0 : e = 0
  · refine offE (bne_eq_false_iff_eq.2 h0) ?_
    have hg := Li.check_good.1 (he.symm.trans h0)
    have hn0 : 0 < first.length := by have := hg.f1; omega
    have hT1 : 0 < T.length := by have := hg.t1; omega
    refine offE (decide_eq_false (show ¬ ((l.length : Nat) : Int) > 4096 by omega)) ?_
    refine ⟨⟨_, rfl, rfl, rfl⟩, .inl ⟨_, _, _, hbeg S1 hS1 hn0 hn8 hT1 hT8, fun S2 y0 hS2 hy0 => ?_⟩⟩
    have hS02 := Store.le_trans hS1 hS2
    obtain ⟨R, hR⟩ : ∃ R : List Li.Pk → Li.Rn, R = Li.runR T (Li.beginR first T) := ⟨_, rfl⟩
    have hok : ∀ a, Li.okR first.length T (R a) := fun a => by rw [hR]; exact Li.runR_ok hg.ok a (Li.beginR_ok first T)
    have hRs : ∀ (a : List Li.Pk) (p : Li.Pk), R (a ++ [p]) = Li.pickR T (R a) p := fun a p => by rw [hR, Li.runR_app]; rfl
    refine ⟨[], [], Nat × Rx × Store, [9] ++ List.range' 24 7, fun z => [(23, rI z.1)], fun z => [.box [.v (.slice fp fn fc), .v (.slice p T.length c)], .box (cR z.2.1)], fun z => z.2.2,
      fun z => z.1 ≤ l.length ∧ S2.le z.2.2 ∧ RunIs z.2.2 z.2.1 T (R (l.take z.1)) z.1, fun z => l.length - z.1, ?_⟩
    refine And.intro (Exists.intro (0, y0, S2) (And.intro (And.intro (And.intro ?_ rfl) (And.intro rfl (Store.le_refl _))) ⟨Nat.zero_le _, Store.le_refl _, by rw [List.take_zero, hR]; exact hy0⟩)) ?_
    · repeat' first | exact trivial | exact rfl | refine And.intro ?_ ?_
    rintro ⟨i, y, Sy⟩ ⟨hi, hSy, hy⟩
    simp only at hi hSy hy
    refine And.intro (fun h1 => ?_) (fun h1 => ?_)
    · have h1 : (i : Int) < ((l.length : Nat) : Int) := of_decide_eq_true h1
      obtain ⟨pk, hpk⟩ : ∃ pk, l[i]? = some pk := ⟨_, List.getElem?_eq_getElem (by omega)⟩
      obtain ⟨b1, o1, hp1, ok1, hrd1⟩ := row_at (hqr.le (Store.le_trans hS02 hSy)) hpk
      obtain ⟨k1, k2, k3⟩ := hq.ok pk (List.mem_of_getElem? hpk)
      obtain ⟨kk, kt, kc⟩ := pk
      refine ⟨Int.natCast_nonneg _, h1, b1, o1, hp1, ((kk, kt, kc) : Int × Int × Int), ok1, hrd1, ?_⟩
      refine ⟨⟨_, rfl, rfl, rfl⟩, .inl ⟨_, _, _, pick_spec Sy (hLt.le (Store.le_trans hS02 hSy)) y T _ i first.length hy (hok _) hg.ok hn0 hn8 hT1 hT8 h8 (by omega) (kk, kt, kc) k2 k3, fun S3 z hS3 hz => ?_⟩⟩
      refine ⟨((i + 1 : Nat) : Int), wrap_i64 (by omega) (by omega), (i + 1, z, S3), ⟨⟨?_, rfl⟩, rfl, Store.le_refl _⟩, ⟨by show i + 1 ≤ _; omega, Store.le_trans hSy hS3, ?_⟩, by show l.length - (i + 1) < l.length - i; omega⟩
      · repeat' first | exact trivial | exact rfl | refine And.intro ?_ ?_
      · show RunIs S3 z T (R (l.take (i + 1))) (i + 1)
        rw [List.take_add_one, hpk]
        show RunIs S3 z T (R (l.take i ++ [(kk, kt, kc)])) (i + 1)
        rw [hRs]; exact hz
    have h1 : ¬ (i : Int) < ((l.length : Nat) : Int) := of_decide_eq_false h1
    have hil : i = l.length := by omega
    subst hil
    rw [List.take_length] at hy
    refine ⟨[], [], Nat × Rx × Store, List.range' 31 13, fun z => [(10, rI ((z.1 : Int) + 1))], fun z => [.box [.v (.slice fp fn fc), .v (.slice p T.length c)], .box (cR z.2.1)], fun z => z.2.2,
      fun z => z.1 ≤ T.length ∧ Sy.le z.2.2 ∧ RunIs z.2.2 z.2.1 T (R (l ++ tails z.1)) (l.length + 6 * z.1), fun z => T.length - z.1, ?_⟩
    refine And.intro (Exists.intro (0, y, Sy) (And.intro (And.intro (And.intro ?_ rfl) (And.intro rfl (Store.le_refl _))) ⟨Nat.zero_le _, Store.le_refl _, by rw [show tails 0 = [] from rfl, List.append_nil]; exact hy⟩)) ?_
    · repeat' first | exact trivial | exact rfl | refine And.intro ?_ ?_
    rintro ⟨k, yk, Sk⟩ ⟨hk, hSk, hyk⟩
    simp only at hk hSk hyk
    refine And.intro (fun h1 => ?_) (fun h1 => ?_)
    · have h1 : (k : Int) + 1 ≤ ((T.length : Nat) : Int) := of_decide_eq_true h1
      refine ⟨[], [], Nat × Rx × Store, List.range' 39 5, fun z => [(38, rI z.1)], fun z => [.box [.v (.slice fp fn fc), .v (.slice p T.length c)], .box (cR z.2.1)], fun z => z.2.2,
        fun z => z.1 ≤ 6 ∧ Sk.le z.2.2 ∧ RunIs z.2.2 z.2.1 T (R (l ++ tails k ++ reps k z.1)) (l.length + 6 * k + z.1), fun z => 6 - z.1, ?_⟩
      refine And.intro (Exists.intro (0, yk, Sk) (And.intro (And.intro (And.intro ?_ rfl) (And.intro rfl (Store.le_refl _))) ⟨Nat.zero_le _, Store.le_refl _, by rw [show reps k 0 = [] from rfl, List.append_nil]; exact hyk⟩)) ?_
      · repeat' first | exact trivial | exact rfl | refine And.intro ?_ ?_
      rintro ⟨j, yj, Sj⟩ ⟨hj, hSj, hyj⟩
      simp only at hj hSj hyj
      refine And.intro (fun h2 => ?_) (fun h2 => ?_)
      · have h2 : (j : Int) < 6 := of_decide_eq_true h2
        refine ⟨⟨_, rfl, rfl, rfl⟩, .inl ⟨_, _, _, step_spec Sj (hLt.le (Store.le_trans (Store.le_trans hS02 hSy) (Store.le_trans hSk hSj))) yj T _ _ first.length hyj (hok _) hg.ok hn8 hT8 h8 (by omega) ((k : Int) + 1) ⟨by omega, by omega⟩ 0 ⟨by decide, by decide⟩, fun S3 z hS3 hz => ?_⟩⟩
        refine ⟨((j + 1 : Nat) : Int), wrap_i64 (by omega) (by omega), (j + 1, z, S3), ⟨⟨?_, rfl⟩, rfl, Store.le_refl _⟩, ⟨by show j + 1 ≤ 6; omega, Store.le_trans hSj hS3, ?_⟩, by show 6 - (j + 1) < 6 - j; omega⟩
        · repeat' first | exact trivial | exact rfl | refine And.intro ?_ ?_
        · show RunIs S3 z T (R (l ++ tails k ++ reps k (j + 1))) (l.length + 6 * k + (j + 1))
          rw [reps_succ, ← List.append_assoc, hRs, Li.stepR_pick]
          have : stepI T (R (l ++ tails k ++ reps k j)) ((k : Int) + 1) 0 = Li.stepR T (R (l ++ tails k ++ reps k j)) k 0 := by
            unfold stepI; rw [if_pos (by omega), show ((k : Int) + 1 - 1).toNat = k by omega]
          rw [this] at hz; exact hz
      have h2 : ¬ (j : Int) < 6 := of_decide_eq_false h2
      have hj6 : j = 6 := by omega
      subst hj6
      refine ⟨((k + 1 : Nat) : Int) + 1, by rw [wrap_i64 (by omega) (by omega)]; omega, (k + 1, yj, Sj), ⟨⟨?_, rfl⟩, rfl, Store.le_refl _⟩, ⟨by show k + 1 ≤ _; omega, Store.le_trans hSk hSj, ?_⟩, by show T.length - (k + 1) < T.length - k; omega⟩
      · repeat' first | exact trivial | exact rfl | refine And.intro ?_ ?_
      · show RunIs Sj yj T (R (l ++ tails (k + 1))) (l.length + 6 * (k + 1))
        rw [tails_succ, ← List.append_assoc, show l.length + 6 * (k + 1) = l.length + 6 * k + 6 by omega]
        exact hyj
    have h1 : ¬ (k : Int) + 1 ≤ ((T.length : Nat) : Int) := of_decide_eq_false h1
    have hkT : k = T.length := by omega
    subst hkT
    refine ⟨⟨_, rfl, rfl, rfl⟩, .inl ⟨_, _, _, otext_spec Sk (hLt.le (Store.le_trans (Store.le_trans hS02 hSy) hSk)) yk T _ _ first.length hyk (hok _) hn0 hn8 hT1 hT8 (by omega), fun S3 _ hS3 _ => ⟨rfl, (), ?_, trivial⟩⟩⟩
    show rSE (if e = 0 then Li.outcomeR first T l else []) e = rSE (Li.textR (R (l ++ tails T.length))) 0
    rw [if_pos h0, h0, hR]
    rfl
  · refine onE (bne_iff_ne.2 h0) ⟨rfl, (), ?_, trivial⟩
    rw [if_neg h0]; rfl
end Go.Proofs.YtapblcfbmaikjaaGreatDoor
