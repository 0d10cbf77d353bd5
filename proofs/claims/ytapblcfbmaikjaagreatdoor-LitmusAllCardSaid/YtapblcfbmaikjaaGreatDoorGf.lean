/- law09: Same, in, awake; all outcomes of a named test. -/
import Derived.Test.YtapblcfbmaikjaaGreatDoorGe
namespace Go.Proofs.YtapblcfbmaikjaaGreatDoor
open Go Go.Vc Go.Sort Go.RowKit Go.Maps
set_option maxRecDepth 100000
set_option maxHeartbeats 8000000

theorem same_spec (S : Store) (p q : Hd) (xs ys : List Li.Bs) (hp : SsIs S p xs) (hq : SsIs S q ys) (hn : xs.length ≤ 1000000000000) : Pure Tryz.prog 15 S [slV p, slV q] (A := Unit) (fun _ => rB (decide (xs = ys))) (fun _ _ => True) := by
  obtain ⟨p1, p2, p3⟩ := hp
  obtain ⟨q1, q2, q3⟩ := hq
  obtain ⟨pa, pn, pc⟩ := p
  obtain ⟨qa, qn, qc⟩ := q
  have p1 : pn = xs.length := p1
  have q1 : qn = ys.length := q1
  subst p1 q1
  refine pure_vc agrees Tryz.func15 rfl rfl (fun S S' q hle h => h) ?_
  by_cases hl : xs.length = ys.length
  · refine offE (bne_eq_false_iff_eq.2 (show ((xs.length : Nat) : Int) = ((ys.length : Nat) : Int) by omega)) ?_
    refine ⟨[], [], Nat, List.range' 11 15, fun i => [(5, rI i)], fun _ => [], fun _ => S, fun i => i ≤ xs.length ∧ xs.take i = ys.take i, fun i => xs.length - i, ?_⟩
    refine And.intro (Exists.intro 0 (And.intro (And.intro (And.intro ?_ rfl) (And.intro rfl (Store.le_refl _))) ⟨Nat.zero_le _, rfl⟩)) ?_
    · repeat' first | exact trivial | exact rfl | refine And.intro ?_ ?_
    rintro i ⟨hi, htk⟩
    have hi : i ≤ xs.length := hi
    refine And.intro (fun h1 => ?_) (fun h1 => ?_)
    · have h1 : (i : Int) < ((xs.length : Nat) : Int) := of_decide_eq_true h1
      have hix : i < xs.length := by omega
      have hiy : i < ys.length := by omega
      obtain ⟨b1, o1, e1, ok1, hr1⟩ := row_at p3 (i := i) (x := bs xs[i]) (by rw [List.getElem?_map, List.getElem?_eq_getElem hix]; rfl)
      obtain ⟨b2, o2, e2, ok2, hr2⟩ := row_at q3 (i := i) (x := bs ys[i]) (by rw [List.getElem?_map, List.getElem?_eq_getElem hiy]; rfl)
      refine ⟨or15_6, [], oF15_6, by kernel_rfl, ?_⟩
      refine ⟨Int.natCast_nonneg _, h1, b1, o1, e1, bs xs[i], ok1, hr1, Int.natCast_nonneg _, by show (i : Int) < ((ys.length : Nat) : Int); omega, b2, o2, e2, bs ys[i], ok2, hr2, ?_⟩
      by_cases he : xs[i] = ys[i]
      · refine offE (by rw [bsq, decide_eq_true he]; rfl) ?_
        refine ⟨((i + 1 : Nat) : Int), wrap_i64 (by omega) (by omega), i + 1, ⟨⟨?_, rfl⟩, rfl, Store.le_refl _⟩, ⟨hix, by show xs.take (i + 1) = ys.take (i + 1); rw [List.take_add_one, List.take_add_one, htk, List.getElem?_eq_getElem hix, List.getElem?_eq_getElem hiy, he]⟩, by show xs.length - (i + 1) < xs.length - i; omega⟩
        repeat' first | exact trivial | exact rfl | refine And.intro ?_ ?_
      · refine onE (by rw [bsq, decide_eq_false he]; rfl) ⟨rfl, (), ?_, trivial⟩
        show rB (decide (xs = ys)) = rB false
        rw [decide_eq_false]
        intro e; subst e; exact he rfl
    · have h1 : ¬ (i : Int) < ((xs.length : Nat) : Int) := of_decide_eq_false h1
      have : i = xs.length := by omega
      subst this
      rw [List.take_length, hl, List.take_length] at htk
      refine ⟨rfl, (), ?_, trivial⟩
      show rB (decide (xs = ys)) = rB true
      rw [decide_eq_true htk]
  · refine onE (bne_iff_ne.2 (show ((xs.length : Nat) : Int) ≠ ((ys.length : Nat) : Int) by omega)) ⟨rfl, (), ?_, trivial⟩
    show rB (decide (xs = ys)) = rB false
    rw [decide_eq_false]
    intro e; exact hl (by rw [e])
theorem in_spec (S : Store) (p : Hd) (xs : List Li.Bs) (s : Li.Bs) (hp : SsIs S p xs) (hn : xs.length ≤ 1000000000000) : Pure Tryz.prog 14 S [slV p, .string (bs s)] (A := Unit) (fun _ => rB (decide (s ∈ xs))) (fun _ _ => True) := by
  obtain ⟨p1, p2, p3⟩ := hp
  obtain ⟨pa, pn, pc⟩ := p
  have p1 : pn = xs.length := p1
  subst p1
  refine pure_vc agrees Tryz.func14 rfl rfl (fun S S' q hle h => h) ?_
  refine ⟨[], [], Nat, List.range' 6 12, fun i => [(5, rI i)], fun _ => [], fun _ => S, fun i => i ≤ xs.length ∧ s ∉ xs.take i, fun i => xs.length - i, ?_⟩
  refine And.intro (Exists.intro 0 (And.intro (And.intro (And.intro ?_ rfl) (And.intro rfl (Store.le_refl _))) ⟨Nat.zero_le _, by simp⟩)) ?_
  · repeat' first | exact trivial | exact rfl | refine And.intro ?_ ?_
  rintro i ⟨hi, htk⟩
  have hi : i ≤ xs.length := hi
  refine And.intro (fun h1 => ?_) (fun h1 => ?_)
  · have h1 : (i : Int) < ((xs.length : Nat) : Int) := of_decide_eq_true h1
    have hix : i < xs.length := by omega
    obtain ⟨b1, o1, e1, ok1, hr1⟩ := row_at p3 (i := i) (x := bs xs[i]) (by rw [List.getElem?_map, List.getElem?_eq_getElem hix]; rfl)
    refine ⟨Int.natCast_nonneg _, h1, b1, o1, e1, bs xs[i], ok1, hr1, ?_⟩
    by_cases he : xs[i] = s
    · refine onE (by rw [bsq, decide_eq_true he]) ⟨rfl, (), ?_, trivial⟩
      show rB (decide (s ∈ xs)) = rB true
      rw [decide_eq_true]
      rw [← he]; exact List.getElem_mem hix
    · refine offE (by rw [bsq, decide_eq_false he]) ?_
      refine ⟨((i + 1 : Nat) : Int), wrap_i64 (by omega) (by omega), i + 1, ⟨⟨?_, rfl⟩, rfl, Store.le_refl _⟩, ⟨hix, fun hm => ?_⟩, by show xs.length - (i + 1) < xs.length - i; omega⟩
      · repeat' first | exact trivial | exact rfl | refine And.intro ?_ ?_
      · have hm : s ∈ xs.take (i + 1) := hm
        rw [List.take_add_one, List.getElem?_eq_getElem hix] at hm
        rcases List.mem_append.1 hm with hm | hm
        · exact htk hm
        · simp at hm; exact he hm.symm
  · have h1 : ¬ (i : Int) < ((xs.length : Nat) : Int) := of_decide_eq_false h1
    have : i = xs.length := by omega
    subst this
    rw [List.take_length] at htk
    refine ⟨rfl, (), ?_, trivial⟩
    show rB (decide (s ∈ xs)) = rB false
    rw [decide_eq_false htk]
theorem named_hit (S : Store) (s : Li.Bs) (T : List (List Li.Act)) (h : findN s tableL = some T) : Pure Tryz.prog 18 S [.string (bs s)] (A := Tz) (fun x => rTB x true) (fun S' x => TestIs S' x Li.two T) := by
  have := named_spec S s
  unfold namedT at this
  rw [h] at this
  exact this
theorem oall_good (S : Store) (hLt : Lt S) (x : Tz) (first : List Li.Wd) (T : List (List Li.Act)) (hx : TestIs S x first T) (hg : Li.Good first T) :
    Pure Tryz.prog 13 S [vT x] (A := Hd) (fun q => .tup [(false, [.v (slV q)]), (false, [.v (.int .i64 0)])]) (fun S' q => SsIs S' q (Li.putAll [] (Li.allT first T))) := by
  have h0 := Li.check_good.2 hg
  have := oall_spec S hLt x first T hx (by have := hg.f4; omega) (by have := hg.t4; omega) (fun l hl => by have := hg.six l hl; omega)
  unfold allS at this
  rw [h0, if_pos rfl] at this
  exact this
theorem all_len {first : List Li.Wd} {T : List (List Li.Act)} (hg : Li.Good first T) : (Li.putAll [] (Li.allT first T)).length ≤ 1073741824 := by
  have hlf : Li.leftS T (Li.beginS first T) ≤ 6 := Nat.le_trans (left_size T _) hg.sz
  have h2 : (Li.allT first T).length ≤ 32 ^ Li.leftS T (Li.beginS first T) := outs_len T hg.t4 _ _ 1 (fun h hh => by
    obtain ⟨w, -, rfl⟩ := List.mem_map.1 hh
    exact Nat.le_refl _) (by omega)
  have h3 : 32 ^ Li.leftS T (Li.beginS first T) ≤ 32 ^ 6 := Nat.pow_le_pow_right (by decide) hlf
  have h4 : (32 : Nat) ^ 6 = 1073741824 := by decide
  have h5 := nodup_len (Li.sorted_nodup (Li.putAll_sorted (Li.allT first T) List.Pairwise.nil)) (m := Li.allT first T) fun x hx => by
    have := (Li.putAll_mem x (Li.allT first T) []).1 hx
    simpa using this
  omega
def lkA : Li.Bs := [48, 32, 124, 32, 49, 32, 58, 32, 49, 32, 49]
def lkB : Li.Bs := [49, 32, 124, 32, 48, 32, 58, 32, 49, 32, 49]
def lkC : Li.Bs := [49, 32, 124, 32, 49, 32, 58, 32, 49, 32, 49]
theorem good_two {T : List (List Li.Act)} (h : Li.checkT Li.two T = 0) : Li.Good Li.two T := Li.check_good.1 h
theorem looking_all : Li.putAll [] (Li.allT Li.two (Li.buffered 5)) = [lkA, lkB, lkC] := by
  refine Li.sorted_eq (Li.putAll_sorted _ List.Pairwise.nil) (by decide) fun z => ?_
  rw [Li.putAll_mem]
  have e : Li.allT Li.two (Li.buffered 5) = Li.allOf (Li.buffered 5) := rfl
  rw [e]
  simp only [List.not_mem_nil, false_or, List.mem_cons, or_false]
  constructor
  · intro hz
    have := List.all_eq_true.1 Li.all_looking z hz
    simp only [Bool.or_eq_true, beq_iff_eq] at this
    rcases this with (h | h) | h
    · exact .inl h
    · exact .inr (.inl h)
    · exact .inr (.inr h)
  · have hit : ∀ {x : Li.Bs}, (Li.allOf (Li.buffered 5)).any (fun y => y == x) = true → x ∈ Li.allOf (Li.buffered 5) := fun h => by
      obtain ⟨y, hy, he⟩ := List.any_eq_true.1 h
      rw [beq_iff_eq.1 he] at hy; exact hy
    rintro (rfl | rfl | rfl)
    · exact hit Li.has_looking0
    · exact hit Li.has_looking1
    · exact hit Li.has_looking2
theorem awake_spec (S : Store) (hLt : Lt S) : Pure Tryz.prog 9 S [] (A := Unit) (fun _ => rB true) (fun _ _ => True) := by
  refine pure_vc agrees Tryz.func9 rfl rfl (fun S S' q hle h => h) ?_
  refine ⟨⟨_, rfl, rfl, rfl⟩, .inl ⟨_, _, _, named_hit S nm1 (Li.buffered 5) rfl, fun S1 x hS1 hx => ?_⟩⟩
  have hall := oall_good S1 (hLt.le hS1) x Li.two (Li.buffered 5) hx (good_two rfl)
  rw [looking_all] at hall
  obtain ⟨⟨x1, x2, x3⟩, ⟨x4, x5, x6⟩⟩ := x
  refine ⟨⟨_, rfl, rfl, rfl⟩, .inl ⟨_, _, _, hall, fun S2 q hS2 hq => ?_⟩⟩
  obtain ⟨q1, q2, q3⟩ := q
  refine onT (onT ⟨⟨_, rfl, rfl, rfl⟩, .inl fun p5 c5 S5 hS5 hr5 hpf5 => ⟨_, _, _, same_spec S5 (q1, q2, q3) (p5, 3, c5) [lkA, lkB, lkC] [lkA, lkB, lkC] (hq.le hS5) ⟨rfl, pform_le hpf5.1, hr5⟩ (by decide), fun S6 _ hS6 _ => ⟨rfl, (), ?_, trivial⟩⟩⟩)
  show rB true = rB (decide ([lkA, lkB, lkC] = [lkA, lkB, lkC]))
  rw [decide_eq_true rfl]
end Go.Proofs.YtapblcfbmaikjaaGreatDoor
