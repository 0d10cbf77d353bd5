/- law09: Same, in, awake; the reference's Names and Named; law Named. -/
import Derived.Test.YtapblcfbmaikjaaGreatDoorGe
namespace Go.Proofs.YtapblcfbmaikjaaGreatDoor
open Go Go.Vc Go.Sort Go.RowKit Go.Maps
set_option maxRecDepth 100000
set_option maxHeartbeats 8000000

theorem same_spec (S : Store) (p q : Hd) (xs ys : List Li.Bs) (hp : SsIs S p xs) (hq : SsIs S q ys) (hn : xs.length ≤ 1000000000000) : Pure Tryz.prog 15 S [slV p, slV q] (A := Unit) (fun _ => rB (decide (xs = ys))) (fun _ _ => True) := by
  obtain ⟨p1, p2, p3⟩ := hp
  obtain ⟨q1, q2, q3⟩ := hq
  obtain ⟨pa, pn, pc⟩ := p
  obtain ⟨qa, qn, qc⟩ := q
  have p1 : pn = xs.length := p1
  have q1 : qn = ys.length := q1
  subst p1 q1
  refine pure_vc agrees Tryz.func15 rfl rfl (fun S S' q hle h => h) ?_
  by_cases hl : xs.length = ys.length
  · refine offE (bne_eq_false_iff_eq.2 (show ((xs.length : Nat) : Int) = ((ys.length : Nat) : Int) by omega)) ?_
    refine ⟨[], [], Nat, List.range' 11 15, fun i => [(5, rI i)], fun _ => [], fun _ => S, fun i => i ≤ xs.length ∧ xs.take i = ys.take i, fun i => xs.length - i, ?_⟩
    refine And.intro (Exists.intro 0 (And.intro (And.intro (And.intro ?_ rfl) (And.intro rfl (Store.le_refl _))) ⟨Nat.zero_le _, rfl⟩)) ?_
    · repeat' first | exact trivial | exact rfl | refine And.intro ?_ ?_
    rintro i ⟨hi, htk⟩
    have hi : i ≤ xs.length := hi
    refine And.intro (fun h1 => ?_) (fun h1 => ?_)
    · have h1 : (i : Int) < ((xs.length : Nat) : Int) := of_decide_eq_true h1
      have hix : i < xs.length := by omega
      have hiy : i < ys.length := by omega
      obtain ⟨b1, o1, e1, ok1, hr1⟩ := row_at p3 (i := i) (x := bs xs[i]) (by rw [List.getElem?_map, List.getElem?_eq_getElem hix]; rfl)
      obtain ⟨b2, o2, e2, ok2, hr2⟩ := row_at q3 (i := i) (x := bs ys[i]) (by rw [List.getElem?_map, List.getElem?_eq_getElem hiy]; rfl)
      refine ⟨or15_6, [], oF15_6, by kernel_rfl, ?_⟩
      refine ⟨Int.natCast_nonneg _, h1, b1, o1, e1, bs xs[i], ok1, hr1, Int.natCast_nonneg _, by show (i : Int) < ((ys.length : Nat) : Int); omega, b2, o2, e2, bs ys[i], ok2, hr2, ?_⟩
      by_cases he : xs[i] = ys[i]
      · refine offE (by rw [bsq, decide_eq_true he]; rfl) ?_
        refine ⟨((i + 1 : Nat) : Int), wrap_i64 (by omega) (by omega), i + 1, ⟨⟨?_, rfl⟩, rfl, Store.le_refl _⟩, ⟨hix, by show xs.take (i + 1) = ys.take (i + 1); rw [List.take_add_one, List.take_add_one, htk, List.getElem?_eq_getElem hix, List.getElem?_eq_getElem hiy, he]⟩, by show xs.length - (i + 1) < xs.length - i; omega⟩
        repeat' first | exact trivial | exact rfl | refine And.intro ?_ ?_
      · refine onE (by rw [bsq, decide_eq_false he]; rfl) ⟨rfl, (), ?_, trivial⟩
        show rB (decide (xs = ys)) = rB false
        rw [decide_eq_false]
        intro e; subst e; exact he rfl
    · have h1 : ¬ (i : Int) < ((xs.length : Nat) : Int) := of_decide_eq_false h1
      have : i = xs.length := by omega
      subst this
      rw [List.take_length, hl, List.take_length] at htk
      refine ⟨rfl, (), ?_, trivial⟩
      show rB (decide (xs = ys)) = rB true
      rw [decide_eq_true htk]
  · refine onE (bne_iff_ne.2 (show ((xs.length : Nat) : Int) ≠ ((ys.length : Nat) : Int) by omega)) ⟨rfl, (), ?_, trivial⟩
    show rB (decide (xs = ys)) = rB false
    rw [decide_eq_false]
    intro e; exact hl (by rw [e])
theorem in_spec (S : Store) (p : Hd) (xs : List Li.Bs) (s : Li.Bs) (hp : SsIs S p xs) (hn : xs.length ≤ 1000000000000) : Pure Tryz.prog 14 S [slV p, .string (bs s)] (A := Unit) (fun _ => rB (decide (s ∈ xs))) (fun _ _ => True) := by
  obtain ⟨p1, p2, p3⟩ := hp
  obtain ⟨pa, pn, pc⟩ := p
  have p1 : pn = xs.length := p1
  subst p1
  refine pure_vc agrees Tryz.func14 rfl rfl (fun S S' q hle h => h) ?_
  refine ⟨[], [], Nat, List.range' 6 12, fun i => [(5, rI i)], fun _ => [], fun _ => S, fun i => i ≤ xs.length ∧ s ∉ xs.take i, fun i => xs.length - i, ?_⟩
  refine And.intro (Exists.intro 0 (And.intro (And.intro (And.intro ?_ rfl) (And.intro rfl (Store.le_refl _))) ⟨Nat.zero_le _, by simp⟩)) ?_
  · repeat' first | exact trivial | exact rfl | refine And.intro ?_ ?_
  rintro i ⟨hi, htk⟩
  have hi : i ≤ xs.length := hi
  refine And.intro (fun h1 => ?_) (fun h1 => ?_)
  · have h1 : (i : Int) < ((xs.length : Nat) : Int) := of_decide_eq_true h1
    have hix : i < xs.length := by omega
    obtain ⟨b1, o1, e1, ok1, hr1⟩ := row_at p3 (i := i) (x := bs xs[i]) (by rw [List.getElem?_map, List.getElem?_eq_getElem hix]; rfl)
    refine ⟨Int.natCast_nonneg _, h1, b1, o1, e1, bs xs[i], ok1, hr1, ?_⟩
    by_cases he : xs[i] = s
    · refine onE (by rw [bsq, decide_eq_true he]) ⟨rfl, (), ?_, trivial⟩
      show rB (decide (s ∈ xs)) = rB true
      rw [decide_eq_true]
      rw [← he]; exact List.getElem_mem hix
    · refine offE (by rw [bsq, decide_eq_false he]) ?_
      refine ⟨((i + 1 : Nat) : Int), wrap_i64 (by omega) (by omega), i + 1, ⟨⟨?_, rfl⟩, rfl, Store.le_refl _⟩, ⟨hix, fun hm => ?_⟩, by show xs.length - (i + 1) < xs.length - i; omega⟩
      · repeat' first | exact trivial | exact rfl | refine And.intro ?_ ?_
      · have hm : s ∈ xs.take (i + 1) := hm
        rw [List.take_add_one, List.getElem?_eq_getElem hix] at hm
        rcases List.mem_append.1 hm with hm | hm
        · exact htk hm
        · simp at hm; exact he hm.symm
  · have h1 : ¬ (i : Int) < ((xs.length : Nat) : Int) := of_decide_eq_false h1
    have : i = xs.length := by omega
    subst this
    rw [List.take_length] at htk
    refine ⟨rfl, (), ?_, trivial⟩
    show rB (decide (s ∈ xs)) = rB false
    rw [decide_eq_false htk]
theorem named_hit (S : Store) (s : Li.Bs) (T : List (List Li.Act)) (h : findN s tableL = some T) : Pure Tryz.prog 18 S [.string (bs s)] (A := Tz) (fun x => rTB x true) (fun S' x => TestIs S' x Li.two T) := by
  have := named_spec S s
  unfold namedT at this
  rw [h] at this
  exact this
theorem oall_good (S : Store) (hLt : Lt S) (x : Tz) (first : List Li.Wd) (T : List (List Li.Act)) (hx : TestIs S x first T) (hg : Li.Good first T) :
    Pure Tryz.prog 13 S [vT x] (A := Hd) (fun q => .tup [(false, [.v (slV q)]), (false, [.v (.int .i64 0)])]) (fun S' q => SsIs S' q (Li.putAll [] (Li.allT first T))) := by
  have h0 := Li.check_good.2 hg
  have := oall_spec S hLt x first T hx (by have := hg.f4; omega) (by have := hg.t4; omega) (fun l hl => by have := hg.six l hl; omega)
  unfold allS at this
  rw [h0, if_pos rfl] at this
  exact this
theorem all_len {first : List Li.Wd} {T : List (List Li.Act)} (hg : Li.Good first T) : (Li.putAll [] (Li.allT first T)).length ≤ 1073741824 := by
  have hlf : Li.leftS T (Li.beginS first T) ≤ 6 := Nat.le_trans (left_size T _) hg.sz
  have h2 : (Li.allT first T).length ≤ 32 ^ Li.leftS T (Li.beginS first T) := outs_len T hg.t4 _ _ 1 (fun h hh => by
    obtain ⟨w, -, rfl⟩ := List.mem_map.1 hh
    exact Nat.le_refl _) (by omega)
  have h3 : 32 ^ Li.leftS T (Li.beginS first T) ≤ 32 ^ 6 := Nat.pow_le_pow_right (by decide) hlf
  have h4 : (32 : Nat) ^ 6 = 1073741824 := by decide
  have h5 := nodup_len (Li.sorted_nodup (Li.putAll_sorted (Li.allT first T) List.Pairwise.nil)) (m := Li.allT first T) fun x hx => by
    have := (Li.putAll_mem x (Li.allT first T) []).1 hx
    simpa using this
  omega
def lkA : Li.Bs := [48, 32, 124, 32, 49, 32, 58, 32, 49, 32, 49]
def lkB : Li.Bs := [49, 32, 124, 32, 48, 32, 58, 32, 49, 32, 49]
def lkC : Li.Bs := [49, 32, 124, 32, 49, 32, 58, 32, 49, 32, 49]
theorem good_two {T : List (List Li.Act)} (h : Li.checkT Li.two T = 0) : Li.Good Li.two T := Li.check_good.1 h
theorem looking_all : Li.putAll [] (Li.allT Li.two (Li.buffered 5)) = [lkA, lkB, lkC] := by
  refine Li.sorted_eq (Li.putAll_sorted _ List.Pairwise.nil) (by decide) fun z => ?_
  rw [Li.putAll_mem]
  have e : Li.allT Li.two (Li.buffered 5) = Li.allOf (Li.buffered 5) := rfl
  rw [e]
  simp only [List.not_mem_nil, false_or, List.mem_cons, or_false]
  constructor
  · intro hz
    have := List.all_eq_true.1 Li.all_looking z hz
    simp only [Bool.or_eq_true, beq_iff_eq] at this
    rcases this with (h | h) | h
    · exact .inl h
    · exact .inr (.inl h)
    · exact .inr (.inr h)
  · have hit : ∀ {x : Li.Bs}, (Li.allOf (Li.buffered 5)).any (fun y => y == x) = true → x ∈ Li.allOf (Li.buffered 5) := fun h => by
      obtain ⟨y, hy, he⟩ := List.any_eq_true.1 h
      rw [beq_iff_eq.1 he] at hy; exact hy
    rintro (rfl | rfl | rfl)
    · exact hit Li.has_looking0
    · exact hit Li.has_looking1
    · exact hit Li.has_looking2
theorem awake_spec (S : Store) (hLt : Lt S) : Pure Tryz.prog 9 S [] (A := Unit) (fun _ => rB true) (fun _ _ => True) := by
  refine pure_vc agrees Tryz.func9 rfl rfl (fun S S' q hle h => h) ?_
  refine ⟨⟨_, rfl, rfl, rfl⟩, .inl ⟨_, _, _, named_hit S nm1 (Li.buffered 5) rfl, fun S1 x hS1 hx => ?_⟩⟩
  have hall := oall_good S1 (hLt.le hS1) x Li.two (Li.buffered 5) hx (good_two rfl)
  rw [looking_all] at hall
  obtain ⟨⟨x1, x2, x3⟩, ⟨x4, x5, x6⟩⟩ := x
  refine ⟨⟨_, rfl, rfl, rfl⟩, .inl ⟨_, _, _, hall, fun S2 q hS2 hq => ?_⟩⟩
  obtain ⟨q1, q2, q3⟩ := q
  refine onT (onT ⟨⟨_, rfl, rfl, rfl⟩, .inl fun p5 c5 S5 hS5 hr5 hpf5 => ⟨_, _, _, same_spec S5 (q1, q2, q3) (p5, 3, c5) [lkA, lkB, lkC] [lkA, lkB, lkC] (hq.le hS5) ⟨rfl, pform_le hpf5.1, hr5⟩ (by decide), fun S6 _ hS6 _ => ⟨rfl, (), ?_, trivial⟩⟩⟩)
  show rB true = rB (decide ([lkA, lkB, lkC] = [lkA, lkB, lkC]))
  rw [decide_eq_true rfl]
theorem ract_spec (S : Store) (op a v : Int) : Pure Tryz.prog 33 S [.int .i64 op, .int .i64 a, .int .i64 v] (A := Unit) (fun _ => .agg (cAct (Li.put op a v))) (fun _ _ => True) := by
  refine pure_vc agrees Tryz.func33 rfl rfl (fun S S' q hle h => h) ?_
  exact ⟨rfl, (), rfl, trivial⟩
theorem rnames_spec (S : Store) : Pure Tryz.prog 17 S [] (A := Hd) rSl (fun S' q => SsIs S' q (tableL.map (·.1))) := by
  refine pure_vc agrees Tryz.func17 rfl rfl (fun S S' q hle h => h.le hle) ?_
  intro p5 c5 S5 hS5 hr5 hpf5
  exact ⟨rfl, (p5, 10, c5), rfl, rfl, pform_le hpf5.1, hr5⟩
theorem rnamed_spec (S : Store) (s : Li.Bs) : Pure Tryz.prog 19 S [.string (bs s)] (A := Tz) (fun x => .agg (cT x)) (fun S' x => TestIs S' x (namedT s).1 (namedT s).2) := by
  refine pure_vc agrees Tryz.func19 rfl rfl (fun S S' q hle h => h.le hle) ?_
  refine ⟨by decide, by decide, by decide, by decide, ?_⟩
  by_cases e0 : s = nm0
  · refine onE (by show ((bs s).toList == (bs nm0).toList) = true; rw [bsq]; exact decide_eq_true e0) ?_
    subst e0
    refine ⟨⟨_, rfl, rfl, rfl⟩, .inl ⟨_, _, _, ract_spec S 3 0 1, fun S1 _ h1 _ => ?_⟩⟩
    refine ⟨⟨_, rfl, rfl, rfl⟩, .inl ⟨_, _, _, ract_spec S1 1 1 0, fun S2 _ h2 _ => ?_⟩⟩
    refine ⟨⟨_, rfl, rfl, rfl⟩, .inl ⟨_, _, _, ract_spec S2 3 1 1, fun S3 _ h3 _ => ?_⟩⟩
    refine ⟨⟨_, rfl, rfl, rfl⟩, .inl ⟨_, _, _, ract_spec S3 1 0 0, fun S4 _ h4 _ => ?_⟩⟩
    intro p1 c1 S5 h5 hr1 hpf1 p2 c2 S6 h6 hr2 hpf2
    intro p3 c3 S7 h7 hr3 hpf3
    intro p4 c4 S8 h8 hr4 hpf4
    refine ⟨rfl, ((p3, 2, c3), (p4, 2, c4)), rfl, ?_⟩
    show TestIs _ _ Li.two (Li.buffered 1)
    refine ⟨WsIs.le h8 (ws_of (ws := Li.two) hpf3.1 hr3 (mcons okW_0 (mcons okW_0 mnil))), ?_⟩
    have hT : ThIs S8 (p4, 2, c4) [[(Li.put 3 0 1), (Li.put 1 1 0)], [(Li.put 3 1 1), (Li.put 1 0 0)]] := ⟨[(((p1, 2, c1) : Hd), [(Li.put 3 0 1), (Li.put 1 1 0)]), (((p2, 2, c2) : Hd), [(Li.put 3 1 1), (Li.put 1 0 0)])], rfl, rfl, pform_le hpf4.1, hr4.le (Store.le_refl _), (mcons (acts_of (l := [(Li.put 3 0 1), (Li.put 1 1 0)]) rfl (pform_le hpf1.1) (hr1.le (Store.le_trans (Store.le_trans h6 h7) h8)) (mcons (okP i_3 i_0 i_1) (mcons (okP i_1 i_1 i_0) mnil))) (mcons (acts_of (l := [(Li.put 3 1 1), (Li.put 1 0 0)]) rfl (pform_le hpf2.1) (hr2.le (Store.le_trans h7 h8)) (mcons (okP i_3 i_1 i_1) (mcons (okP i_1 i_0 i_0) mnil))) mnil))⟩
    exact hT
  refine offE (by show ((bs s).toList == (bs nm0).toList) = false; rw [bsq]; exact decide_eq_false e0) ?_
  by_cases e1 : s = nm1
  · refine onE (by show ((bs s).toList == (bs nm1).toList) = true; rw [bsq]; exact decide_eq_true e1) ?_
    subst e1
    refine ⟨⟨_, rfl, rfl, rfl⟩, .inl ⟨_, _, _, ract_spec S 3 0 1, fun S1 _ h1 _ => ?_⟩⟩
    refine ⟨⟨_, rfl, rfl, rfl⟩, .inl ⟨_, _, _, ract_spec S1 5 1 0, fun S2 _ h2 _ => ?_⟩⟩
    refine ⟨⟨_, rfl, rfl, rfl⟩, .inl ⟨_, _, _, ract_spec S2 3 1 1, fun S3 _ h3 _ => ?_⟩⟩
    refine ⟨⟨_, rfl, rfl, rfl⟩, .inl ⟨_, _, _, ract_spec S3 5 0 0, fun S4 _ h4 _ => ?_⟩⟩
    intro p1 c1 S5 h5 hr1 hpf1 p2 c2 S6 h6 hr2 hpf2
    intro p3 c3 S7 h7 hr3 hpf3
    intro p4 c4 S8 h8 hr4 hpf4
    refine ⟨rfl, ((p3, 2, c3), (p4, 2, c4)), rfl, ?_⟩
    show TestIs _ _ Li.two (Li.buffered 5)
    refine ⟨WsIs.le h8 (ws_of (ws := Li.two) hpf3.1 hr3 (mcons okW_0 (mcons okW_0 mnil))), ?_⟩
    have hT : ThIs S8 (p4, 2, c4) [[(Li.put 3 0 1), (Li.put 5 1 0)], [(Li.put 3 1 1), (Li.put 5 0 0)]] := ⟨[(((p1, 2, c1) : Hd), [(Li.put 3 0 1), (Li.put 5 1 0)]), (((p2, 2, c2) : Hd), [(Li.put 3 1 1), (Li.put 5 0 0)])], rfl, rfl, pform_le hpf4.1, hr4.le (Store.le_refl _), (mcons (acts_of (l := [(Li.put 3 0 1), (Li.put 5 1 0)]) rfl (pform_le hpf1.1) (hr1.le (Store.le_trans (Store.le_trans h6 h7) h8)) (mcons (okP i_3 i_0 i_1) (mcons (okP i_5 i_1 i_0) mnil))) (mcons (acts_of (l := [(Li.put 3 1 1), (Li.put 5 0 0)]) rfl (pform_le hpf2.1) (hr2.le (Store.le_trans h7 h8)) (mcons (okP i_3 i_1 i_1) (mcons (okP i_5 i_0 i_0) mnil))) mnil))⟩
    exact hT
  refine offE (by show ((bs s).toList == (bs nm1).toList) = false; rw [bsq]; exact decide_eq_false e1) ?_
  by_cases e2 : s = nm2
  · refine onE (by show ((bs s).toList == (bs nm2).toList) = true; rw [bsq]; exact decide_eq_true e2) ?_
    subst e2
    refine ⟨⟨_, rfl, rfl, rfl⟩, .inl ⟨_, _, _, ract_spec S 3 0 1, fun S1 _ h1 _ => ?_⟩⟩
    refine ⟨⟨_, rfl, rfl, rfl⟩, .inl ⟨_, _, _, ract_spec S1 3 1 1, fun S2 _ h2 _ => ?_⟩⟩
    refine ⟨⟨_, rfl, rfl, rfl⟩, .inl ⟨_, _, _, ract_spec S2 1 1 0, fun S3 _ h3 _ => ?_⟩⟩
    refine ⟨⟨_, rfl, rfl, rfl⟩, .inl ⟨_, _, _, ract_spec S3 1 0 0, fun S4 _ h4 _ => ?_⟩⟩
    intro p1 c1 S5 h5 hr1 hpf1 p2 c2 S6 h6 hr2 hpf2
    intro p3 c3 S7 h7 hr3 hpf3
    intro p4 c4 S8 h8 hr4 hpf4
    refine ⟨rfl, ((p3, 2, c3), (p4, 2, c4)), rfl, ?_⟩
    show TestIs _ _ Li.two (Li.message 3 1)
    refine ⟨WsIs.le h8 (ws_of (ws := Li.two) hpf3.1 hr3 (mcons okW_0 (mcons okW_0 mnil))), ?_⟩
    have hT : ThIs S8 (p4, 2, c4) [[(Li.put 3 0 1), (Li.put 3 1 1)], [(Li.put 1 1 0), (Li.put 1 0 0)]] := ⟨[(((p1, 2, c1) : Hd), [(Li.put 3 0 1), (Li.put 3 1 1)]), (((p2, 2, c2) : Hd), [(Li.put 1 1 0), (Li.put 1 0 0)])], rfl, rfl, pform_le hpf4.1, hr4.le (Store.le_refl _), (mcons (acts_of (l := [(Li.put 3 0 1), (Li.put 3 1 1)]) rfl (pform_le hpf1.1) (hr1.le (Store.le_trans (Store.le_trans h6 h7) h8)) (mcons (okP i_3 i_0 i_1) (mcons (okP i_3 i_1 i_1) mnil))) (mcons (acts_of (l := [(Li.put 1 1 0), (Li.put 1 0 0)]) rfl (pform_le hpf2.1) (hr2.le (Store.le_trans h7 h8)) (mcons (okP i_1 i_1 i_0) (mcons (okP i_1 i_0 i_0) mnil))) mnil))⟩
    exact hT
  refine offE (by show ((bs s).toList == (bs nm2).toList) = false; rw [bsq]; exact decide_eq_false e2) ?_
  by_cases e3 : s = nm3
  · refine onE (by show ((bs s).toList == (bs nm3).toList) = true; rw [bsq]; exact decide_eq_true e3) ?_
    subst e3
    refine ⟨⟨_, rfl, rfl, rfl⟩, .inl ⟨_, _, _, ract_spec S 3 0 1, fun S1 _ h1 _ => ?_⟩⟩
    refine ⟨⟨_, rfl, rfl, rfl⟩, .inl ⟨_, _, _, ract_spec S1 4 1 1, fun S2 _ h2 _ => ?_⟩⟩
    refine ⟨⟨_, rfl, rfl, rfl⟩, .inl ⟨_, _, _, ract_spec S2 2 1 0, fun S3 _ h3 _ => ?_⟩⟩
    refine ⟨⟨_, rfl, rfl, rfl⟩, .inl ⟨_, _, _, ract_spec S3 1 0 0, fun S4 _ h4 _ => ?_⟩⟩
    intro p1 c1 S5 h5 hr1 hpf1 p2 c2 S6 h6 hr2 hpf2
    intro p3 c3 S7 h7 hr3 hpf3
    intro p4 c4 S8 h8 hr4 hpf4
    refine ⟨rfl, ((p3, 2, c3), (p4, 2, c4)), rfl, ?_⟩
    show TestIs _ _ Li.two (Li.message 4 2)
    refine ⟨WsIs.le h8 (ws_of (ws := Li.two) hpf3.1 hr3 (mcons okW_0 (mcons okW_0 mnil))), ?_⟩
    have hT : ThIs S8 (p4, 2, c4) [[(Li.put 3 0 1), (Li.put 4 1 1)], [(Li.put 2 1 0), (Li.put 1 0 0)]] := ⟨[(((p1, 2, c1) : Hd), [(Li.put 3 0 1), (Li.put 4 1 1)]), (((p2, 2, c2) : Hd), [(Li.put 2 1 0), (Li.put 1 0 0)])], rfl, rfl, pform_le hpf4.1, hr4.le (Store.le_refl _), (mcons (acts_of (l := [(Li.put 3 0 1), (Li.put 4 1 1)]) rfl (pform_le hpf1.1) (hr1.le (Store.le_trans (Store.le_trans h6 h7) h8)) (mcons (okP i_3 i_0 i_1) (mcons (okP i_4 i_1 i_1) mnil))) (mcons (acts_of (l := [(Li.put 2 1 0), (Li.put 1 0 0)]) rfl (pform_le hpf2.1) (hr2.le (Store.le_trans h7 h8)) (mcons (okP i_2 i_1 i_0) (mcons (okP i_1 i_0 i_0) mnil))) mnil))⟩
    exact hT
  refine offE (by show ((bs s).toList == (bs nm3).toList) = false; rw [bsq]; exact decide_eq_false e3) ?_
  by_cases e4 : s = nm4
  · refine onE (by show ((bs s).toList == (bs nm4).toList) = true; rw [bsq]; exact decide_eq_true e4) ?_
    subst e4
    refine ⟨⟨_, rfl, rfl, rfl⟩, .inl ⟨_, _, _, ract_spec S 1 0 0, fun S1 _ h1 _ => ?_⟩⟩
    refine ⟨⟨_, rfl, rfl, rfl⟩, .inl ⟨_, _, _, ract_spec S1 3 1 1, fun S2 _ h2 _ => ?_⟩⟩
    refine ⟨⟨_, rfl, rfl, rfl⟩, .inl ⟨_, _, _, ract_spec S2 1 1 0, fun S3 _ h3 _ => ?_⟩⟩
    refine ⟨⟨_, rfl, rfl, rfl⟩, .inl ⟨_, _, _, ract_spec S3 3 0 1, fun S4 _ h4 _ => ?_⟩⟩
    intro p1 c1 S5 h5 hr1 hpf1 p2 c2 S6 h6 hr2 hpf2
    intro p3 c3 S7 h7 hr3 hpf3
    intro p4 c4 S8 h8 hr4 hpf4
    refine ⟨rfl, ((p3, 2, c3), (p4, 2, c4)), rfl, ?_⟩
    show TestIs _ _ Li.two (Li.tLoadBuf)
    refine ⟨WsIs.le h8 (ws_of (ws := Li.two) hpf3.1 hr3 (mcons okW_0 (mcons okW_0 mnil))), ?_⟩
    have hT : ThIs S8 (p4, 2, c4) [[(Li.put 1 0 0), (Li.put 3 1 1)], [(Li.put 1 1 0), (Li.put 3 0 1)]] := ⟨[(((p1, 2, c1) : Hd), [(Li.put 1 0 0), (Li.put 3 1 1)]), (((p2, 2, c2) : Hd), [(Li.put 1 1 0), (Li.put 3 0 1)])], rfl, rfl, pform_le hpf4.1, hr4.le (Store.le_refl _), (mcons (acts_of (l := [(Li.put 1 0 0), (Li.put 3 1 1)]) rfl (pform_le hpf1.1) (hr1.le (Store.le_trans (Store.le_trans h6 h7) h8)) (mcons (okP i_1 i_0 i_0) (mcons (okP i_3 i_1 i_1) mnil))) (mcons (acts_of (l := [(Li.put 1 1 0), (Li.put 3 0 1)]) rfl (pform_le hpf2.1) (hr2.le (Store.le_trans h7 h8)) (mcons (okP i_1 i_1 i_0) (mcons (okP i_3 i_0 i_1) mnil))) mnil))⟩
    exact hT
  refine offE (by show ((bs s).toList == (bs nm4).toList) = false; rw [bsq]; exact decide_eq_false e4) ?_
  by_cases e5 : s = nm5
  · refine onE (by show ((bs s).toList == (bs nm5).toList) = true; rw [bsq]; exact decide_eq_true e5) ?_
    subst e5
    refine ⟨⟨_, rfl, rfl, rfl⟩, .inl ⟨_, _, _, ract_spec S 3 0 1, fun S1 _ h1 _ => ?_⟩⟩
    refine ⟨⟨_, rfl, rfl, rfl⟩, .inl ⟨_, _, _, ract_spec S1 3 0 2, fun S2 _ h2 _ => ?_⟩⟩
    refine ⟨⟨_, rfl, rfl, rfl⟩, .inl ⟨_, _, _, ract_spec S2 1 0 0, fun S3 _ h3 _ => ?_⟩⟩
    refine ⟨⟨_, rfl, rfl, rfl⟩, .inl ⟨_, _, _, ract_spec S3 1 0 0, fun S4 _ h4 _ => ?_⟩⟩
    intro p1 c1 S5 h5 hr1 hpf1 p2 c2 S6 h6 hr2 hpf2
    intro p3 c3 S7 h7 hr3 hpf3
    intro p4 c4 S8 h8 hr4 hpf4
    refine ⟨rfl, ((p3, 2, c3), (p4, 2, c4)), rfl, ?_⟩
    show TestIs _ _ Li.two (Li.tCoh)
    refine ⟨WsIs.le h8 (ws_of (ws := Li.two) hpf3.1 hr3 (mcons okW_0 (mcons okW_0 mnil))), ?_⟩
    have hT : ThIs S8 (p4, 2, c4) [[(Li.put 3 0 1), (Li.put 3 0 2)], [(Li.put 1 0 0), (Li.put 1 0 0)]] := ⟨[(((p1, 2, c1) : Hd), [(Li.put 3 0 1), (Li.put 3 0 2)]), (((p2, 2, c2) : Hd), [(Li.put 1 0 0), (Li.put 1 0 0)])], rfl, rfl, pform_le hpf4.1, hr4.le (Store.le_refl _), (mcons (acts_of (l := [(Li.put 3 0 1), (Li.put 3 0 2)]) rfl (pform_le hpf1.1) (hr1.le (Store.le_trans (Store.le_trans h6 h7) h8)) (mcons (okP i_3 i_0 i_1) (mcons (okP i_3 i_0 i_2) mnil))) (mcons (acts_of (l := [(Li.put 1 0 0), (Li.put 1 0 0)]) rfl (pform_le hpf2.1) (hr2.le (Store.le_trans h7 h8)) (mcons (okP i_1 i_0 i_0) (mcons (okP i_1 i_0 i_0) mnil))) mnil))⟩
    exact hT
  refine offE (by show ((bs s).toList == (bs nm5).toList) = false; rw [bsq]; exact decide_eq_false e5) ?_
  by_cases e6 : s = nm6
  · refine onE (by show ((bs s).toList == (bs nm6).toList) = true; rw [bsq]; exact decide_eq_true e6) ?_
    subst e6
    refine ⟨⟨_, rfl, rfl, rfl⟩, .inl ⟨_, _, _, ract_spec S 4 0 1, fun S1 _ h1 _ => ?_⟩⟩
    refine ⟨⟨_, rfl, rfl, rfl⟩, .inl ⟨_, _, _, ract_spec S1 4 1 1, fun S2 _ h2 _ => ?_⟩⟩
    refine ⟨⟨_, rfl, rfl, rfl⟩, .inl ⟨_, _, _, ract_spec S2 2 0 0, fun S3 _ h3 _ => ?_⟩⟩
    refine ⟨⟨_, rfl, rfl, rfl⟩, .inl ⟨_, _, _, ract_spec S3 2 1 0, fun S4 _ h4 _ => ?_⟩⟩
    refine ⟨⟨_, rfl, rfl, rfl⟩, .inl ⟨_, _, _, ract_spec S4 2 1 0, fun S5 _ h5 _ => ?_⟩⟩
    refine ⟨⟨_, rfl, rfl, rfl⟩, .inl ⟨_, _, _, ract_spec S5 2 0 0, fun S6 _ h6 _ => ?_⟩⟩
    intro p1 c1 S7 h7 hr1 hpf1 p2 c2 S8 h8 hr2 hpf2 p3 c3 S9 h9 hr3 hpf3 p4 c4 S10 h10 hr4 hpf4
    intro p5 c5 S11 h11 hr5 hpf5
    intro p6 c6 S12 h12 hr6 hpf6
    refine ⟨rfl, ((p5, 2, c5), (p6, 4, c6)), rfl, ?_⟩
    show TestIs _ _ Li.two (Li.far 2)
    refine ⟨WsIs.le h12 (ws_of (ws := Li.two) hpf5.1 hr5 (mcons okW_0 (mcons okW_0 mnil))), ?_⟩
    have hT : ThIs S12 (p6, 4, c6) [[(Li.put 4 0 1)], [(Li.put 4 1 1)], [(Li.put 2 0 0), (Li.put 2 1 0)], [(Li.put 2 1 0), (Li.put 2 0 0)]] := ⟨[(((p1, 1, c1) : Hd), [(Li.put 4 0 1)]), (((p2, 1, c2) : Hd), [(Li.put 4 1 1)]), (((p3, 2, c3) : Hd), [(Li.put 2 0 0), (Li.put 2 1 0)]), (((p4, 2, c4) : Hd), [(Li.put 2 1 0), (Li.put 2 0 0)])], rfl, rfl, pform_le hpf6.1, hr6.le (Store.le_refl _), (mcons (acts_of (l := [(Li.put 4 0 1)]) rfl (pform_le hpf1.1) (hr1.le (Store.le_trans (Store.le_trans (Store.le_trans (Store.le_trans h8 h9) h10) h11) h12)) (mcons (okP i_4 i_0 i_1) mnil)) (mcons (acts_of (l := [(Li.put 4 1 1)]) rfl (pform_le hpf2.1) (hr2.le (Store.le_trans (Store.le_trans (Store.le_trans h9 h10) h11) h12)) (mcons (okP i_4 i_1 i_1) mnil)) (mcons (acts_of (l := [(Li.put 2 0 0), (Li.put 2 1 0)]) rfl (pform_le hpf3.1) (hr3.le (Store.le_trans (Store.le_trans h10 h11) h12)) (mcons (okP i_2 i_0 i_0) (mcons (okP i_2 i_1 i_0) mnil))) (mcons (acts_of (l := [(Li.put 2 1 0), (Li.put 2 0 0)]) rfl (pform_le hpf4.1) (hr4.le (Store.le_trans h11 h12)) (mcons (okP i_2 i_1 i_0) (mcons (okP i_2 i_0 i_0) mnil))) mnil))))⟩
    exact hT
  refine offE (by show ((bs s).toList == (bs nm6).toList) = false; rw [bsq]; exact decide_eq_false e6) ?_
  by_cases e7 : s = nm7
  · refine onE (by show ((bs s).toList == (bs nm7).toList) = true; rw [bsq]; exact decide_eq_true e7) ?_
    subst e7
    refine ⟨⟨_, rfl, rfl, rfl⟩, .inl ⟨_, _, _, ract_spec S 4 0 1, fun S1 _ h1 _ => ?_⟩⟩
    refine ⟨⟨_, rfl, rfl, rfl⟩, .inl ⟨_, _, _, ract_spec S1 4 1 1, fun S2 _ h2 _ => ?_⟩⟩
    refine ⟨⟨_, rfl, rfl, rfl⟩, .inl ⟨_, _, _, ract_spec S2 5 0 0, fun S3 _ h3 _ => ?_⟩⟩
    refine ⟨⟨_, rfl, rfl, rfl⟩, .inl ⟨_, _, _, ract_spec S3 5 1 0, fun S4 _ h4 _ => ?_⟩⟩
    refine ⟨⟨_, rfl, rfl, rfl⟩, .inl ⟨_, _, _, ract_spec S4 5 1 0, fun S5 _ h5 _ => ?_⟩⟩
    refine ⟨⟨_, rfl, rfl, rfl⟩, .inl ⟨_, _, _, ract_spec S5 5 0 0, fun S6 _ h6 _ => ?_⟩⟩
    intro p1 c1 S7 h7 hr1 hpf1 p2 c2 S8 h8 hr2 hpf2 p3 c3 S9 h9 hr3 hpf3 p4 c4 S10 h10 hr4 hpf4
    intro p5 c5 S11 h11 hr5 hpf5
    intro p6 c6 S12 h12 hr6 hpf6
    refine ⟨rfl, ((p5, 2, c5), (p6, 4, c6)), rfl, ?_⟩
    show TestIs _ _ Li.two (Li.far 5)
    refine ⟨WsIs.le h12 (ws_of (ws := Li.two) hpf5.1 hr5 (mcons okW_0 (mcons okW_0 mnil))), ?_⟩
    have hT : ThIs S12 (p6, 4, c6) [[(Li.put 4 0 1)], [(Li.put 4 1 1)], [(Li.put 5 0 0), (Li.put 5 1 0)], [(Li.put 5 1 0), (Li.put 5 0 0)]] := ⟨[(((p1, 1, c1) : Hd), [(Li.put 4 0 1)]), (((p2, 1, c2) : Hd), [(Li.put 4 1 1)]), (((p3, 2, c3) : Hd), [(Li.put 5 0 0), (Li.put 5 1 0)]), (((p4, 2, c4) : Hd), [(Li.put 5 1 0), (Li.put 5 0 0)])], rfl, rfl, pform_le hpf6.1, hr6.le (Store.le_refl _), (mcons (acts_of (l := [(Li.put 4 0 1)]) rfl (pform_le hpf1.1) (hr1.le (Store.le_trans (Store.le_trans (Store.le_trans (Store.le_trans h8 h9) h10) h11) h12)) (mcons (okP i_4 i_0 i_1) mnil)) (mcons (acts_of (l := [(Li.put 4 1 1)]) rfl (pform_le hpf2.1) (hr2.le (Store.le_trans (Store.le_trans (Store.le_trans h9 h10) h11) h12)) (mcons (okP i_4 i_1 i_1) mnil)) (mcons (acts_of (l := [(Li.put 5 0 0), (Li.put 5 1 0)]) rfl (pform_le hpf3.1) (hr3.le (Store.le_trans (Store.le_trans h10 h11) h12)) (mcons (okP i_5 i_0 i_0) (mcons (okP i_5 i_1 i_0) mnil))) (mcons (acts_of (l := [(Li.put 5 1 0), (Li.put 5 0 0)]) rfl (pform_le hpf4.1) (hr4.le (Store.le_trans h11 h12)) (mcons (okP i_5 i_1 i_0) (mcons (okP i_5 i_0 i_0) mnil))) mnil))))⟩
    exact hT
  refine offE (by show ((bs s).toList == (bs nm7).toList) = false; rw [bsq]; exact decide_eq_false e7) ?_
  by_cases e8 : s = nm8
  · refine onE (by show ((bs s).toList == (bs nm8).toList) = true; rw [bsq]; exact decide_eq_true e8) ?_
    subst e8
    refine ⟨⟨_, rfl, rfl, rfl⟩, .inl ⟨_, _, _, ract_spec S 6 0 1, fun S1 _ h1 _ => ?_⟩⟩
    refine ⟨⟨_, rfl, rfl, rfl⟩, .inl ⟨_, _, _, ract_spec S1 6 0 2, fun S2 _ h2 _ => ?_⟩⟩
    intro p1 c1 S3 h3 hr1 hpf1 p2 c2 S4 h4 hr2 hpf2
    intro p3 c3 S5 h5 hr3 hpf3
    intro p4 c4 S6 h6 hr4 hpf4
    refine ⟨rfl, ((p3, 2, c3), (p4, 2, c4)), rfl, ?_⟩
    show TestIs _ _ Li.two (Li.tSwaps)
    refine ⟨WsIs.le h6 (ws_of (ws := Li.two) hpf3.1 hr3 (mcons okW_0 (mcons okW_0 mnil))), ?_⟩
    have hT : ThIs S6 (p4, 2, c4) [[(Li.put 6 0 1)], [(Li.put 6 0 2)]] := ⟨[(((p1, 1, c1) : Hd), [(Li.put 6 0 1)]), (((p2, 1, c2) : Hd), [(Li.put 6 0 2)])], rfl, rfl, pform_le hpf4.1, hr4.le (Store.le_refl _), (mcons (acts_of (l := [(Li.put 6 0 1)]) rfl (pform_le hpf1.1) (hr1.le (Store.le_trans (Store.le_trans h4 h5) h6)) (mcons (okP i_6 i_0 i_1) mnil)) (mcons (acts_of (l := [(Li.put 6 0 2)]) rfl (pform_le hpf2.1) (hr2.le (Store.le_trans h5 h6)) (mcons (okP i_6 i_0 i_2) mnil)) mnil))⟩
    exact hT
  refine offE (by show ((bs s).toList == (bs nm8).toList) = false; rw [bsq]; exact decide_eq_false e8) ?_
  by_cases e9 : s = nm9
  · refine onE (by show ((bs s).toList == (bs nm9).toList) = true; rw [bsq]; exact decide_eq_true e9) ?_
    subst e9
    refine ⟨⟨_, rfl, rfl, rfl⟩, .inl ⟨_, _, _, ract_spec S 3 0 1, fun S1 _ h1 _ => ?_⟩⟩
    refine ⟨⟨_, rfl, rfl, rfl⟩, .inl ⟨_, _, _, ract_spec S1 4 1 1, fun S2 _ h2 _ => ?_⟩⟩
    refine ⟨⟨_, rfl, rfl, rfl⟩, .inl ⟨_, _, _, ract_spec S2 2 1 0, fun S3 _ h3 _ => ?_⟩⟩
    refine ⟨⟨_, rfl, rfl, rfl⟩, .inl ⟨_, _, _, ract_spec S3 1 0 0, fun S4 _ h4 _ => ?_⟩⟩
    intro p1 c1 S5 h5 hr1 hpf1 p2 c2 S6 h6 hr2 hpf2 p3 c3 S7 h7 hr3 hpf3
    intro p4 c4 S8 h8 hr4 hpf4
    intro p5 c5 S9 h9 hr5 hpf5
    refine ⟨rfl, ((p4, 2, c4), (p5, 3, c5)), rfl, ?_⟩
    show TestIs _ _ Li.two (Li.tRel)
    refine ⟨WsIs.le h9 (ws_of (ws := Li.two) hpf4.1 hr4 (mcons okW_0 (mcons okW_0 mnil))), ?_⟩
    have hT : ThIs S9 (p5, 3, c5) [[(Li.put 3 0 1), (Li.put 4 1 1)], [(Li.swp 1 1 2)], [(Li.put 2 1 0), (Li.put 1 0 0)]] := ⟨[(((p1, 2, c1) : Hd), [(Li.put 3 0 1), (Li.put 4 1 1)]), (((p2, 1, c2) : Hd), [(Li.swp 1 1 2)]), (((p3, 2, c3) : Hd), [(Li.put 2 1 0), (Li.put 1 0 0)])], rfl, rfl, pform_le hpf5.1, hr5.le (Store.le_refl _), (mcons (acts_of (l := [(Li.put 3 0 1), (Li.put 4 1 1)]) rfl (pform_le hpf1.1) (hr1.le (Store.le_trans (Store.le_trans (Store.le_trans h6 h7) h8) h9)) (mcons (okP i_3 i_0 i_1) (mcons (okP i_4 i_1 i_1) mnil))) (mcons (acts_of (l := [(Li.swp 1 1 2)]) rfl (pform_le hpf2.1) (hr2.le (Store.le_trans (Store.le_trans h7 h8) h9)) (mcons (okX i_1 i_1 i_2) mnil)) (mcons (acts_of (l := [(Li.put 2 1 0), (Li.put 1 0 0)]) rfl (pform_le hpf3.1) (hr3.le (Store.le_trans h8 h9)) (mcons (okP i_2 i_1 i_0) (mcons (okP i_1 i_0 i_0) mnil))) mnil)))⟩
    exact hT
  refine offE (by show ((bs s).toList == (bs nm9).toList) = false; rw [bsq]; exact decide_eq_false e9) ?_
  have hf : findN s tableL = none := find_none fun x hx => by
    simp only [tableL, List.mem_cons, List.not_mem_nil, or_false] at hx
    rcases hx with rfl | rfl | rfl | rfl | rfl | rfl | rfl | rfl | rfl | rfl
    · exact fun q => e0 q.symm
    · exact fun q => e1 q.symm
    · exact fun q => e2 q.symm
    · exact fun q => e3 q.symm
    · exact fun q => e4 q.symm
    · exact fun q => e5 q.symm
    · exact fun q => e6 q.symm
    · exact fun q => e7 q.symm
    · exact fun q => e8 q.symm
    · exact fun q => e9 q.symm
  unfold namedT
  rw [hf]
  exact ⟨rfl, ((none, 0, 0), (none, 0, 0)), rfl, ws_nil _, th_nil _⟩
end Go.Proofs.YtapblcfbmaikjaaGreatDoor
