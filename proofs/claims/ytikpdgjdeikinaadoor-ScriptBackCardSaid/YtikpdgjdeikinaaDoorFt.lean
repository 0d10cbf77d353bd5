/- law63: Few; the law Back. -/
import Derived.Test.YtikpdgjdeikinaaDoorFs
import Derived.Test.YtikpdgjdeikinaaDoorFo
namespace Go.Proofs.YtikpdgjdeikinaaDoor
open Go Go.Vc Go.Sort
set_option maxRecDepth 100000
set_option maxHeartbeats 8000000

/-- Words and commands of whatever length, that the store knows. -/
structure WsRaw (S : Store) (q : Hd) (ws : List Sc.Bs) : Prop where
  len : q.2.1 = ws.length
  cap : q.2.1 ≤ q.2.2
  row : RowRd S q.1 .str (ws.map bs)
structure CRaw (S : Store) (x : Cx) (c : Sc.Cmd) : Prop where
  line : x.1 = c.1
  op : x.2.1 = c.2.1
  ns : NsIs S x.2.2.1 c.2.2.1
  ws : WsRaw S x.2.2.2 c.2.2.2
def LRaw (S : Store) (q : Hd) (l : List Sc.Cmd) : Prop := l.length ≤ 1000000000000000 ∧ ∃ L : List (Cx × Sc.Cmd), L.map (·.2) = l ∧ q.2.1 = L.length ∧ q.2.1 ≤ q.2.2 ∧ RowRd S q.1 shC (L.map (·.1)) ∧ ∀ z ∈ L, CRaw S z.1 z.2
def fewC (c : Sc.Cmd) : Bool := decide (c.2.2.1.length ≤ 20) && (decide (c.2.2.2.length ≤ 5) && c.2.2.2.all fun w => decide (w.length ≤ 400))
def fewL (l : List Sc.Cmd) : Bool := l.all fewC && decide (l.length ≤ 60)
theorem few_is {S : Store} {q : Hd} {l : List Sc.Cmd} (h : LRaw S q l) (hf : fewL l = true) : LIs S q l := by
  obtain ⟨-, L, rfl, h1, h2, h3, h4⟩ := h
  refine ⟨L, rfl, h1, h2, h3, fun z hz => ?_⟩
  obtain ⟨a, b, c, d⟩ := h4 z hz
  refine ⟨a, b, c, ⟨d.len, d.cap, d.row, fun w hw => ?_⟩⟩
  unfold fewL at hf
  rw [Bool.and_eq_true] at hf
  have := List.all_eq_true.1 hf.1 z.2 (List.mem_map.2 ⟨z, hz, rfl⟩)
  unfold fewC at this
  simp only [Bool.and_eq_true, List.all_eq_true, decide_eq_true_eq] at this
  have := this.2.2 w hw
  omega
theorem few_spec' (S : Store) (q : Hd) (l : List Sc.Cmd) (hl : LRaw S q l) : Pure Tryd.prog 16 S [slV q] (A := Unit) (fun _ => rB (fewL l)) (fun _ _ => True) := by
  obtain ⟨hbig, L, rfl, hlen, hcap, hr, hK⟩ := hl
  obtain ⟨p, n, c⟩ := q
  have hlen : n = L.length := hlen
  subst hlen
  have hr : RowRd S p shC (L.map (·.1)) := hr
  rw [List.length_map] at hbig
  refine pure_vc agrees Tryd.func16 rfl rfl (fun S S' q hle h => h) ?_
  have hno : ∀ (i : Nat) z, L[i]? = some z → fewC z.2 = false → fewL (L.map (·.2)) = false := fun i z hz hf => by
    unfold fewL
    cases h : (L.map (·.2)).all fewC with
    | false => rfl
    | true => rw [List.all_eq_true.1 h z.2 (List.mem_map.2 ⟨z, List.mem_of_getElem? hz, rfl⟩)] at hf; cases hf
  refine ⟨[], [], Nat, [3, 4, 5, 6] ++ List.range' 10 25, fun i => [(9, rI i)], fun _ => [], fun _ => S, fun i => i ≤ L.length ∧ ((L.take i).map (·.2)).all fewC = true, fun i => L.length - i, ?_⟩
  refine And.intro (Exists.intro 0 (And.intro (And.intro (And.intro ?_ rfl) (And.intro rfl (Store.le_refl _))) ⟨Nat.zero_le _, rfl⟩)) ?_
  · repeat' first | exact trivial | exact rfl | refine And.intro ?_ ?_
  rintro i ⟨hi, hall⟩
  have hi : i ≤ L.length := hi
  have i0 : (0 : Int) ≤ ((i : Nat) : Int) := Int.natCast_nonneg _
  refine And.intro (fun h => ?_) (fun h => ?_)
  · have hil : i < L.length := by
      have : ((i : Nat) : Int) < ((L.length : Nat) : Int) := of_decide_eq_true h
      omega
    obtain ⟨z, hz⟩ : ∃ z, L[i]? = some z := ⟨_, List.getElem?_eq_getElem hil⟩
    obtain ⟨b, o, hp, hok, hrd⟩ := row_at hr (i := i) (x := z.1) (by rw [List.getElem?_map, hz]; rfl)
    have hcz := hK z (List.mem_of_getElem? hz)
    have hno := hno i z hz
    have htk : (L.take (i + 1)).map (·.2) = (L.take i).map (·.2) ++ [z.2] := by rw [List.take_add_one, hz, List.map_append]; rfl
    obtain ⟨⟨xl, xo, ⟨np, nn, nc⟩, ⟨wp, wn, wc⟩⟩, cz⟩ := z
    have hnn : nn = cz.2.2.1.length := hcz.ns.len
    have hwn : wn = cz.2.2.2.length := hcz.ws.len
    have hwr : RowRd S wp .str (cz.2.2.2.map bs) := hcz.ws.row
    have hno : fewC cz = false → fewL (L.map (·.2)) = false := hno
    refine ⟨i0, by show ((i : Nat) : Int) < (L.length : Int); omega, b, o, hp, (xl, xo, (np, nn, nc), (wp, wn, wc)), hok, hrd, ?_⟩
    by_cases h20 : nn > 20
    · refine onE (decide_eq_true (show ((nn : Nat) : Int) > 20 by omega)) (onT ⟨rfl, (), ?_, trivial⟩)
      rw [hno (by unfold fewC; rw [decide_eq_false (by omega)]; rfl)]; rfl
    refine offE (decide_eq_false (show ¬ ((nn : Nat) : Int) > 20 by omega)) ?_
    by_cases h5 : wn > 5
    · refine onE (decide_eq_true (show ((wn : Nat) : Int) > 5 by omega)) ⟨rfl, (), ?_, trivial⟩
      rw [hno (by unfold fewC; rw [decide_eq_false (show ¬ cz.2.2.2.length ≤ 5 by omega), Bool.false_and, Bool.and_false])]; rfl
    refine offE (decide_eq_false (show ¬ ((wn : Nat) : Int) > 5 by omega)) ?_
    refine ⟨[], [], Nat, [6] ++ List.range' 27 7, fun k => [(26, rI k)], fun _ => [.box [.v (.int .i64 xl), .v (.int .i64 xo), .v (.slice np nn nc), .v (.slice wp wn wc)]], fun _ => S, fun k => k ≤ cz.2.2.2.length ∧ (cz.2.2.2.take k).all (fun w => decide (w.length ≤ 400)) = true, fun k => cz.2.2.2.length - k, ?_⟩
    refine And.intro (Exists.intro 0 (And.intro (And.intro (And.intro ?_ rfl) (And.intro rfl (Store.le_refl _))) ⟨Nat.zero_le _, rfl⟩)) ?_
    · repeat' first | exact trivial | exact rfl | refine And.intro ?_ ?_
    rintro k ⟨hk, hka⟩
    have hk : k ≤ cz.2.2.2.length := hk
    have k0 : (0 : Int) ≤ ((k : Nat) : Int) := Int.natCast_nonneg _
    refine And.intro (fun h => ?_) (fun h => ?_)
    · have hkl : k < cz.2.2.2.length := by
        have : ((k : Nat) : Int) < ((wn : Nat) : Int) := of_decide_eq_true h
        omega
      obtain ⟨w, hw⟩ : ∃ w, cz.2.2.2[k]? = some w := ⟨_, List.getElem?_eq_getElem hkl⟩
      have hbw := bs_size w
      obtain ⟨b2, o2, hp2, -, hrd2⟩ := row_at hwr (i := k) (x := bs w) (by rw [List.getElem?_map, hw]; rfl)
      refine ⟨k0, by show ((k : Nat) : Int) < ((wn : Nat) : Int); omega, b2, o2, hp2, bs w, trivial, hrd2, ?_⟩
      by_cases h4 : w.length > 400
      · refine onE (decide_eq_true (by show ((bs w).size : Int) > 400; omega)) ⟨rfl, (), ?_, trivial⟩
        have : cz.2.2.2.all (fun w => decide (w.length ≤ 400)) = false := by
          cases hq : cz.2.2.2.all (fun w => decide (w.length ≤ 400)) with
          | false => rfl
          | true => have := List.all_eq_true.1 hq w (List.mem_of_getElem? hw); simp at this; omega
        rw [hno (by unfold fewC; rw [this, Bool.and_false, Bool.and_false])]; rfl
      · refine offE (decide_eq_false (by show ¬ ((bs w).size : Int) > 400; omega)) ⟨((k + 1 : Nat) : Int), wrap_i64 (by omega) (by omega), k + 1, ⟨⟨?_, rfl⟩, rfl, Store.le_refl _⟩, ⟨hkl, by rw [List.take_add_one, hw, List.all_append, hka]; simp; omega⟩, by show cz.2.2.2.length - (k + 1) < cz.2.2.2.length - k; omega⟩
        repeat' first | exact trivial | exact rfl | refine And.intro ?_ ?_
    · have hkl : k = cz.2.2.2.length := by
        have : ¬ ((k : Nat) : Int) < ((wn : Nat) : Int) := of_decide_eq_false h
        omega
      rw [hkl, List.take_length] at hka
      have hfz : fewC cz = true := by unfold fewC; rw [hka, decide_eq_true (by omega), decide_eq_true (by omega)]; rfl
      refine ⟨((i + 1 : Nat) : Int), wrap_i64 (by omega) (by omega), i + 1, ⟨⟨?_, rfl⟩, rfl, Store.le_refl _⟩, ⟨hil, by rw [htk, List.all_append, hall]; simp [hfz]⟩, by show L.length - (i + 1) < L.length - i; omega⟩
      repeat' first | exact trivial | exact rfl | refine And.intro ?_ ?_
  · have hil : i = L.length := by
      have : ¬ ((i : Nat) : Int) < ((L.length : Nat) : Int) := of_decide_eq_false h
      omega
    subst hil
    rw [List.take_length] at hall
    refine ⟨rfl, (), ?_, trivial⟩
    unfold fewL
    rw [hall, Bool.true_and, List.length_map]
    have : decide (L.length ≤ 60) = decide (((L.length : Nat) : Int) ≤ 60) := decide_eq_decide.2 (by omega)
    rw [this]; rfl
theorem same_sym {lines : Bool} {a b : List Sc.Cmd} (h : sameP lines a b) : sameP lines b a := ⟨h.1.symm, fun i c d hc hd => ⟨fun q => ((h.2 i d c hd hc).1 q).symm, (h.2 i d c hd hc).2.symm⟩⟩
theorem same_renum (l : List Sc.Cmd) (n : Nat) : sameP false (Sc.renum n l) l := ⟨Sc.renum_len l n, fun i c d hc hd => by
  obtain ⟨e, he, rfl⟩ := Sc.renum_get l n i c hc
  rw [hd] at he
  obtain rfl := Option.some.inj he
  exact ⟨(fun q => by cases q), rfl⟩⟩
theorem few_parts {l : List Sc.Cmd} (h : fewL l = true) : l.length ≤ 60 ∧ ∀ c ∈ l, c.2.2.1.length ≤ 1000000 ∧ c.2.2.2.length ≤ 1000000 := by
  unfold fewL at h
  rw [Bool.and_eq_true, decide_eq_true_eq] at h
  refine ⟨h.2, fun c hc => ?_⟩
  have := List.all_eq_true.1 h.1 c hc
  unfold fewC at this
  simp only [Bool.and_eq_true, decide_eq_true_eq] at this
  omega
theorem law_back (S : Store) (hL : Lw S) (q : Hd) (l : List Sc.Cmd) (hl : LRaw S q l) (s : Sc.Bs) : Pure Tryd.prog 6 S [slV q, .string (bs s)] rB (fun _ b => b = true) := by
  refine pure_vc agrees Tryd.func6 rfl rfl (fun S S' q hle h => h) ?_
  have hsz := bs_size s
  refine ⟨⟨_, rfl, rfl, rfl⟩, .inl ⟨_, _, _, few_spec' S q l hl, fun S1 _ hS1 _ => ?_⟩⟩
  have hL1 := hL.le hS1
  cases hf : fewL l with
  | false => exact onT (onT ⟨⟨_, rfl, rfl, rfl⟩, .inl ⟨_, _, _, awake_spec S1 hL1, fun S2 _ hS2 _ => ⟨rfl, true, rfl, rfl⟩⟩⟩)
  | true =>
    refine onF ?_
    by_cases hs3 : s.length > 3000
    · exact onE (decide_eq_true (by show ((bs s).size : Int) > 3000; omega)) ⟨⟨_, rfl, rfl, rfl⟩, .inl ⟨_, _, _, awake_spec S1 hL1, fun S2 _ hS2 _ => ⟨rfl, true, rfl, rfl⟩⟩⟩
    refine offE (decide_eq_false (by show ¬ ((bs s).size : Int) > 3000; omega)) ?_
    have hli := (few_is hl hf).le hS1
    obtain ⟨h60, hlo⟩ := few_parts hf
    have hin : ∀ c ∈ l, ∀ k ∈ c.2.2.1, Sc.in64 k = true := fun c hc k hk => by
      obtain ⟨L, rfl, -, -, -, hK⟩ := hli
      obtain ⟨z, hz, rfl⟩ := List.mem_map.1 hc
      exact in64_iff.2 ((hK z hz).ns.ins k hk)
    refine ⟨⟨_, rfl, rfl, rfl⟩, .inl ⟨_, _, _, print_spec S1 hL1 q l hli (by omega) (fun c hc => by have := (hlo c hc).1; omega), fun S2 _ hS2 _ => ?_⟩⟩
    have hL2 := hL1.le hS2
    by_cases he : (Sc.printR l).2 = 0
    · refine onE (beq_iff_eq.2 he) ?_
      have hb : Sc.badOf l = 0 ∧ ¬ (Sc.textOf l).length > 65536 := by
        unfold Sc.printR at he
        rw [if_neg (by omega)] at he
        by_cases hbb : Sc.badOf l ≠ 0
        · rw [if_pos hbb] at he; exact absurd he hbb
        rw [if_neg hbb] at he
        by_cases hll : (Sc.textOf l).length > 65536
        · rw [if_pos hll] at he; cases he
        exact ⟨by simpa using hbb, hll⟩
      have hck := Sc.all_bad hb.1
      have hp1 : (Sc.printR l).1 = Sc.textOf l := by
        unfold Sc.printR; rw [if_neg (by omega), if_neg (by rw [hb.1]; simp), if_neg hb.2]
      have hpp := parse_spec' S2 hL2 (Sc.textOf l) (by omega)
      rw [Sc.parse_print hck hin (by omega) (by omega)] at hpp
      rw [← hp1] at hpp
      refine ⟨⟨_, rfl, rfl, rfl⟩, .inl ⟨_, _, _, hpp, fun S3 y hS3 hy => ?_⟩⟩
      obtain ⟨kq, kn, ke⟩ := y
      obtain ⟨hk1, hk2⟩ := hy
      have hk1 : kn = 0 ∧ ke = 0 := ⟨congrArg Prod.fst hk1, congrArg Prod.snd hk1⟩
      obtain ⟨rfl, rfl⟩ := hk1
      have hk2 : LIs S3 kq (Sc.renum 1 l) := hk2
      have hrl : (Sc.renum 1 l).length = l.length := Sc.renum_len l 1
      refine offE rfl (offE rfl ⟨⟨_, rfl, rfl, rfl⟩, .inl ⟨_, _, _, of_spec S3 kq _ hk2 (by omega), fun S4 q4 hS4 hq4 => ?_⟩⟩)
      refine ⟨⟨_, rfl, rfl, rfl⟩, .inl ⟨_, _, _, of_spec S4 q _ (((hli.le hS2).le hS3).le hS4) (by omega), fun S5 q5 hS5 hq5 => ?_⟩⟩
      refine ⟨⟨_, rfl, rfl, rfl⟩, .inl ⟨_, _, _, same_spec S5 q4 q5 _ _ (hq4.le hS5) hq5 (by omega) (fun c hc => ?_) false, fun S6 r hS6 hr => ?_⟩⟩
      · obtain ⟨i, hi⟩ := List.getElem?_of_mem hc
        obtain ⟨d, hd, rfl⟩ := Sc.renum_get l 1 i c hi
        exact hlo d (List.mem_of_getElem? hd)
      have hr : r = true := hr.2 (same_renum l 1)
      subst hr
      refine onF ?_
      obtain ⟨K, hK1, hK2, -, hK4, hK5⟩ := ((hk2.le hS4).le hS5).le hS6
      obtain ⟨kp, kl, kc⟩ := kq
      have hK2 : kl = K.length := hK2
      subst hK2
      have hK4 : RowRd S6 kp shC (K.map (·.1)) := hK4
      have hKl : K.length ≤ 60 := by have := congrArg List.length hK1; rw [List.length_map, hrl] at this; omega
      have hLX : Lw S6 := (((hL2.le hS3).le hS4).le hS5).le hS6
      refine ⟨[], [], Nat, [10, 11] ++ List.range' 59 10, fun i => [(58, rI i)], fun _ => [], fun _ => S6, fun i => i ≤ K.length, fun i => K.length - i, ?_⟩
      refine And.intro (Exists.intro 0 (And.intro (And.intro (And.intro ?_ rfl) (And.intro rfl (Store.le_refl _))) (Nat.zero_le _))) ?_
      · repeat' first | exact trivial | exact rfl | refine And.intro ?_ ?_
      rintro i hi
      have hi : i ≤ K.length := hi
      have i0 : (0 : Int) ≤ ((i : Nat) : Int) := Int.natCast_nonneg _
      refine And.intro (fun h => ?_) (fun h => ?_)
      · have hil : i < K.length := by
          have : ((i : Nat) : Int) < ((K.length : Nat) : Int) := of_decide_eq_true h
          omega
        obtain ⟨z, hz⟩ : ∃ z, K[i]? = some z := ⟨_, List.getElem?_eq_getElem hil⟩
        obtain ⟨b, o, hp, hok, hrd⟩ := row_at hK4 (i := i) (x := z.1) (by rw [List.getElem?_map, hz]; rfl)
        have hzl : z.1.1 = ((i + 1 : Nat) : Int) := by
          rw [(hK5 z (List.mem_of_getElem? hz)).line]
          obtain ⟨d, -, hd⟩ := Sc.renum_get l 1 i z.2 (by rw [← hK1, List.getElem?_map, hz]; rfl)
          rw [hd]; show ((1 + i : Nat) : Int) = _; omega
        obtain ⟨⟨xl, xr⟩, cz⟩ := z
        have hzl : xl = ((i + 1 : Nat) : Int) := hzl
        refine ⟨i0, by show ((i : Nat) : Int) < (K.length : Int); omega, b, o, hp, (xl, xr), hok, hrd, ((i + 1 : Nat) : Int), wrap_i64 (by omega) (by omega), ?_⟩
        refine offE (bne_eq_false_iff_eq.2 hzl) ⟨((i + 1 : Nat) : Int), wrap_i64 (by omega) (by omega), i + 1, ⟨⟨?_, rfl⟩, rfl, Store.le_refl _⟩, hil, by show K.length - (i + 1) < K.length - i; omega⟩
        repeat' first | exact trivial | exact rfl | refine And.intro ?_ ?_
      · clear h
        refine ⟨⟨_, rfl, rfl, rfl⟩, .inl ⟨_, _, _, parse_spec' S6 hLX s (by omega), fun U1 x hU1 hx => ?_⟩⟩
        obtain ⟨aq, an, ae⟩ := x
        obtain ⟨ha1, ha2⟩ := hx
        have ha2 : LIs U1 aq (Sc.parseR s).1 := ha2
        have ha3 : ae = (Sc.parseR s).2.2 := congrArg Prod.snd ha1
        have hLU := hLX.le hU1
        by_cases hae : ae = 0
        · have hok : (Sc.parseR s).2.2 = 0 := ha3.symm.trans hae
          obtain ⟨p1, p2, p3, p4, p5, p6, p7⟩ := Sc.print_parse (s := s) (by omega) hok
          refine offE (bne_eq_false_iff_eq.2 hae) ?_
          have hlo := len_ok p4 p5
          have hpr := print_spec U1 hLU aq _ ha2 (by omega) (fun c hc => by have := (hlo c hc).1; omega)
          rw [p2] at hpr
          refine ⟨⟨_, rfl, rfl, rfl⟩, .inl ⟨_, _, _, hpr, fun U2 _ hU2 _ => ?_⟩⟩
          have hpp := parse_spec' U2 (hLU.le hU2) (Sc.textOf (Sc.parseR s).1) (by omega)
          rw [p3] at hpp
          refine ⟨⟨_, rfl, rfl, rfl⟩, .inl ⟨_, _, _, hpp, fun U3 y hU3 hy => ?_⟩⟩
          obtain ⟨bq, bn, be⟩ := y
          obtain ⟨hb1, hb2⟩ := hy
          have hb1 : bn = 0 ∧ be = 0 := ⟨congrArg Prod.fst hb1, congrArg Prod.snd hb1⟩
          obtain ⟨rfl, rfl⟩ := hb1
          have hb2 : LIs U3 bq (Sc.renum 1 (Sc.parseR s).1) := hb2
          refine onE rfl (onE rfl (onE rfl ⟨⟨_, rfl, rfl, rfl⟩, .inl ⟨_, _, _, of_spec U3 aq _ ((ha2.le hU2).le hU3) (by omega), fun U4 q4 hU4 hq4 => ?_⟩⟩))
          refine ⟨⟨_, rfl, rfl, rfl⟩, .inl ⟨_, _, _, of_spec U4 bq _ (hb2.le hU4) (by rw [Sc.renum_len]; omega), fun U5 q5 hU5 hq5 => ?_⟩⟩
          refine ⟨⟨_, rfl, rfl, rfl⟩, .inl ⟨_, _, _, same_spec U5 q4 q5 _ _ (hq4.le hU5) hq5 (by omega) hlo false, fun U6 r hU6 hr => ?_⟩⟩
          have hr : r = true := hr.2 (same_sym (same_renum _ 1))
          subst hr
          exact onT ⟨⟨_, rfl, rfl, rfl⟩, .inl ⟨_, _, _, awake_spec U6 (((((hLU.le hU2).le hU3).le hU4).le hU5).le hU6), fun U7 _ hU7 _ => ⟨rfl, true, rfl, rfl⟩⟩⟩
        · have hbad : (Sc.parseR s).1 = [] := Sc.parseR_bad (by rw [← ha3]; exact hae)
          rw [hbad] at ha2
          obtain ⟨L0, hL0, hlen0, -⟩ := ha2
          have hz : aq.2.1 = 0 := by rw [hlen0, List.map_eq_nil_iff.1 hL0]; rfl
          exact onE (bne_iff_ne.2 hae) (onE (beq_iff_eq.2 (show ((aq.2.1 : Nat) : Int) = 0 by omega)) ⟨⟨_, rfl, rfl, rfl⟩, .inl ⟨_, _, _, awake_spec U1 hLU, fun U7 _ hU7 _ => ⟨rfl, true, rfl, rfl⟩⟩⟩)
    · refine offE (beq_eq_false_iff_ne.2 he) ?_
      have hLX := hL2
      refine ⟨⟨_, rfl, rfl, rfl⟩, .inl ⟨_, _, _, parse_spec' S2 hLX s (by omega), fun U1 x hU1 hx => ?_⟩⟩
      obtain ⟨aq, an, ae⟩ := x
      obtain ⟨ha1, ha2⟩ := hx
      have ha2 : LIs U1 aq (Sc.parseR s).1 := ha2
      have ha3 : ae = (Sc.parseR s).2.2 := congrArg Prod.snd ha1
      have hLU := hLX.le hU1
      by_cases hae : ae = 0
      · have hok : (Sc.parseR s).2.2 = 0 := ha3.symm.trans hae
        obtain ⟨p1, p2, p3, p4, p5, p6, p7⟩ := Sc.print_parse (s := s) (by omega) hok
        refine offE (bne_eq_false_iff_eq.2 hae) ?_
        have hlo := len_ok p4 p5
        have hpr := print_spec U1 hLU aq _ ha2 (by omega) (fun c hc => by have := (hlo c hc).1; omega)
        rw [p2] at hpr
        refine ⟨⟨_, rfl, rfl, rfl⟩, .inl ⟨_, _, _, hpr, fun U2 _ hU2 _ => ?_⟩⟩
        have hpp := parse_spec' U2 (hLU.le hU2) (Sc.textOf (Sc.parseR s).1) (by omega)
        rw [p3] at hpp
        refine ⟨⟨_, rfl, rfl, rfl⟩, .inl ⟨_, _, _, hpp, fun U3 y hU3 hy => ?_⟩⟩
        obtain ⟨bq, bn, be⟩ := y
        obtain ⟨hb1, hb2⟩ := hy
        have hb1 : bn = 0 ∧ be = 0 := ⟨congrArg Prod.fst hb1, congrArg Prod.snd hb1⟩
        obtain ⟨rfl, rfl⟩ := hb1
        have hb2 : LIs U3 bq (Sc.renum 1 (Sc.parseR s).1) := hb2
        refine onE rfl (onE rfl (onE rfl ⟨⟨_, rfl, rfl, rfl⟩, .inl ⟨_, _, _, of_spec U3 aq _ ((ha2.le hU2).le hU3) (by omega), fun U4 q4 hU4 hq4 => ?_⟩⟩))
        refine ⟨⟨_, rfl, rfl, rfl⟩, .inl ⟨_, _, _, of_spec U4 bq _ (hb2.le hU4) (by rw [Sc.renum_len]; omega), fun U5 q5 hU5 hq5 => ?_⟩⟩
        refine ⟨⟨_, rfl, rfl, rfl⟩, .inl ⟨_, _, _, same_spec U5 q4 q5 _ _ (hq4.le hU5) hq5 (by omega) hlo false, fun U6 r hU6 hr => ?_⟩⟩
        have hr : r = true := hr.2 (same_sym (same_renum _ 1))
        subst hr
        exact onT ⟨⟨_, rfl, rfl, rfl⟩, .inl ⟨_, _, _, awake_spec U6 (((((hLU.le hU2).le hU3).le hU4).le hU5).le hU6), fun U7 _ hU7 _ => ⟨rfl, true, rfl, rfl⟩⟩⟩
      · have hbad : (Sc.parseR s).1 = [] := Sc.parseR_bad (by rw [← ha3]; exact hae)
        rw [hbad] at ha2
        obtain ⟨L0, hL0, hlen0, -⟩ := ha2
        have hz : aq.2.1 = 0 := by rw [hlen0, List.map_eq_nil_iff.1 hL0]; rfl
        exact onE (bne_iff_ne.2 hae) (onE (beq_iff_eq.2 (show ((aq.2.1 : Nat) : Int) = 0 by omega)) ⟨⟨_, rfl, rfl, rfl⟩, .inl ⟨_, _, _, awake_spec U1 hLU, fun U7 _ hU7 _ => ⟨rfl, true, rfl, rfl⟩⟩⟩)
end Go.Proofs.YtikpdgjdeikinaaDoor
