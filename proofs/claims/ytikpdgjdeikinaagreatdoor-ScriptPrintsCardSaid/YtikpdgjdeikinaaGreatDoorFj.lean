/- law63: the reference's within, Few, Range, Word. -/
import Derived.Test.YtikpdgjdeikinaaGreatDoorFi
namespace Go.Proofs.YtikpdgjdeikinaaGreatDoor
open Go Go.Vc Go.Sort
set_option maxRecDepth 100000
set_option maxHeartbeats 8000000

theorem within_spec (S : Store) (n : Int) (b : Int × Int) : Pure Tryz.prog 26 S [.int .i64 n, .int .i64 b.1, .int .i64 b.2] (A := Unit) (fun _ => rB (inB b n)) (fun _ _ => True) := by
  refine pure_vc agrees Tryz.func26 rfl rfl (fun S S' q hle h => h) ?_
  by_cases h1 : n ≥ b.1
  · refine onE (decide_eq_true h1) ⟨rfl, (), ?_, trivial⟩
    unfold inB; rw [decide_eq_true (show b.1 ≤ n from h1)]; rfl
  · refine offE (decide_eq_false h1) ⟨rfl, (), ?_, trivial⟩
    unfold inB; rw [decide_eq_false (show ¬ b.1 ≤ n from h1)]; rfl
def cntW (op : Int) : Int := if Sc.kindOf op = 0 then 0 else 1
theorem few_spec (S : Store) (op : Int) (h0 : 0 ≤ op) (h1 : op ≤ 15) : Pure Tryz.prog 13 S [.int .i64 op] (A := Unit) (fun _ => .tup [(false, [.v (.int .i64 (Sc.leastOf op : Nat))]), (false, [.v (.int .i64 (Sc.leastOf op + Sc.moreOf op : Nat))]), (false, [.v (.int .i64 (cntW op))])]) (fun _ _ => True) := by
  refine pure_vc agrees Tryz.func13 rfl rfl (fun S S' q hle h => h) ?_
  rcases sixteen h0 (by omega) with rfl | rfl | rfl | rfl | rfl | rfl | rfl | rfl | rfl | rfl | rfl | rfl | rfl | rfl | rfl | rfl <;>
    (repeat' first | exact ⟨rfl, (), rfl, trivial⟩ | refine And.intro (fun h => absurd h (by decide)) (fun _ => ?_) | refine And.intro (fun _ => ?_) (fun h => absurd h (by decide)))
/-- The numbers' rows, cell by cell. -/
theorem ns_at {S : Store} {p : Option Addr} {ns : List Int} (hr : RowRd S p shI ns) {i : Nat} {n : Int} (h : ns[i]? = some n) : ∃ b o, p = some ⟨b, o, none⟩ ∧ S.rd b (o + i * 1) [.int .i64 n] := by
  obtain ⟨b, o, hp, -, hrd⟩ := row_at hr h
  exact ⟨b, o, hp, hrd⟩
theorem range_spec (S : Store) (x : Cx) (op : Int) (ns : List Int) (hop : x.2.1 = op) (h0 : 0 ≤ op) (h1 : op ≤ 15) (hn : NsIs S x.2.2.1 ns) (hl : Sc.leastOf op ≤ ns.length) : Pure Tryz.prog 15 S [vC x] (A := Unit) (fun _ => rB (Sc.rangeOk (Sc.bnds op) ns)) (fun _ _ => True) := by
  obtain ⟨xl, xo, ⟨np, nn, nc⟩, xw⟩ := x
  have hop : xo = op := hop
  subst hop
  obtain ⟨hnn, -, hnr, hni⟩ := hn
  have hnn : nn = ns.length := hnn
  have hnr : RowRd S np shI ns := hnr
  subst hnn
  refine pure_vc agrees Tryz.func15 rfl rfl (fun S S' q hle h => h) ?_
  rcases sixteen h0 (by omega) with rfl | rfl | rfl | rfl | rfl | rfl | rfl | rfl | rfl | rfl | rfl | rfl | rfl | rfl | rfl | rfl
  · have hl : 4 ≤ ns.length := hl
    obtain ⟨n0, hn0⟩ : ∃ n, ns[0]? = some n := ⟨_, List.getElem?_eq_getElem (by omega)⟩
    obtain ⟨n1, hn1⟩ : ∃ n, ns[1]? = some n := ⟨_, List.getElem?_eq_getElem (by omega)⟩
    obtain ⟨n2, hn2⟩ : ∃ n, ns[2]? = some n := ⟨_, List.getElem?_eq_getElem (by omega)⟩
    obtain ⟨n3, hn3⟩ : ∃ n, ns[3]? = some n := ⟨_, List.getElem?_eq_getElem (by omega)⟩
    have e : Sc.rangeOk (Sc.bnds 0) ns = (inB (1, 8) n0 && (inB (0, 128) n1 && (inB (0, 1) n2 && (inB (0, 1) n3 && true)))) := by
      have hd : ns = n0 :: n1 :: n2 :: n3 :: ns.drop 4 := by
        match ns, hl, hn0, hn1, hn2, hn3 with
        | a0 :: a1 :: a2 :: a3 :: l, _, hn0, hn1, hn2, hn3 =>
          obtain rfl := Option.some.inj hn0
          obtain rfl := Option.some.inj hn1
          obtain rfl := Option.some.inj hn2
          obtain rfl := Option.some.inj hn3
          rfl
      rw [hd]; show Sc.rangeOk [(1, 8), (0, 128), (0, 1), (0, 1)] _ = _
      rw [range_cons, range_cons, range_cons, range_cons, range_nil]
    rw [e]
    repeat' first | refine offE rfl ?_ | refine onE rfl ?_
    obtain ⟨b0, o0, hp0, hr0⟩ := ns_at (hnr) hn0
    refine ⟨by decide, by show (0 : Int) < ((ns.length : Nat) : Int); omega, b0, o0, hp0, n0, trivial, hr0, ⟨_, rfl, rfl, rfl⟩, .inl ⟨_, _, _, within_spec S n0 (1, 8), fun S1 _ hS1 _ => ?_⟩⟩
    cases hq0 : inB (1, 8) n0 with
    | false => exact onF (onF (onF ⟨rfl, (), rfl, trivial⟩))
    | true =>
    refine onT ?_
    obtain ⟨b1, o1, hp1, hr1⟩ := ns_at (hnr.le hS1) hn1
    refine ⟨by decide, by show (1 : Int) < ((ns.length : Nat) : Int); omega, b1, o1, hp1, n1, trivial, hr1, ⟨_, rfl, rfl, rfl⟩, .inl ⟨_, _, _, within_spec S1 n1 (0, 128), fun S2 _ hS2 _ => ?_⟩⟩
    cases hq1 : inB (0, 128) n1 with
    | false => exact onF (onF ⟨rfl, (), rfl, trivial⟩)
    | true =>
    refine onT ?_
    obtain ⟨b2, o2, hp2, hr2⟩ := ns_at ((hnr.le hS1).le hS2) hn2
    refine ⟨by decide, by show (2 : Int) < ((ns.length : Nat) : Int); omega, b2, o2, hp2, n2, trivial, hr2, ⟨_, rfl, rfl, rfl⟩, .inl ⟨_, _, _, within_spec S2 n2 (0, 1), fun S3 _ hS3 _ => ?_⟩⟩
    cases hq2 : inB (0, 1) n2 with
    | false => exact onF ⟨rfl, (), rfl, trivial⟩
    | true =>
    refine onT ?_
    obtain ⟨b3, o3, hp3, hr3⟩ := ns_at (((hnr.le hS1).le hS2).le hS3) hn3
    exact ⟨by decide, by show (3 : Int) < ((ns.length : Nat) : Int); omega, b3, o3, hp3, n3, trivial, hr3, ⟨_, rfl, rfl, rfl⟩, .inl ⟨_, _, _, within_spec S3 n3 (0, 1), fun _ _ _ _ => ⟨rfl, (), by simp only [Bool.true_and, Bool.and_true]; rfl, trivial⟩⟩⟩
  · have e : Sc.rangeOk (Sc.bnds 1) ns = true := range_nil ns
    rw [e]
    (repeat' first | exact ⟨rfl, (), rfl, trivial⟩ | refine offE rfl ?_ | refine onE rfl ?_)
  · have hl : 1 ≤ ns.length := hl
    obtain ⟨n0, hn0⟩ : ∃ n, ns[0]? = some n := ⟨_, List.getElem?_eq_getElem (by omega)⟩
    have e : Sc.rangeOk (Sc.bnds 2) ns = (inB (1, 8) n0 && true) := by
      have hd : ns = n0 :: ns.drop 1 := by
        match ns, hl, hn0 with
        | a0 :: l, _, hn0 =>
          obtain rfl := Option.some.inj hn0
          rfl
      rw [hd]; show Sc.rangeOk [(1, 8)] _ = _
      rw [range_cons, range_nil]
    rw [e]
    repeat' first | refine offE rfl ?_ | refine onE rfl ?_
    obtain ⟨b0, o0, hp0, hr0⟩ := ns_at (hnr) hn0
    exact ⟨by decide, by show (0 : Int) < ((ns.length : Nat) : Int); omega, b0, o0, hp0, n0, trivial, hr0, ⟨_, rfl, rfl, rfl⟩, .inl ⟨_, _, _, within_spec S n0 (1, 8), fun _ _ _ _ => ⟨rfl, (), by rw [Bool.and_true]; rfl, trivial⟩⟩⟩
  · have hl : 3 ≤ ns.length := hl
    obtain ⟨n0, hn0⟩ : ∃ n, ns[0]? = some n := ⟨_, List.getElem?_eq_getElem (by omega)⟩
    obtain ⟨n1, hn1⟩ : ∃ n, ns[1]? = some n := ⟨_, List.getElem?_eq_getElem (by omega)⟩
    obtain ⟨n2, hn2⟩ : ∃ n, ns[2]? = some n := ⟨_, List.getElem?_eq_getElem (by omega)⟩
    have e : Sc.rangeOk (Sc.bnds 3) ns = (inB (1, 8) n0 && (inB (-2147483648, 2147483647) n1 && (inB (1, 4096) n2 && true))) := by
      have hd : ns = n0 :: n1 :: n2 :: ns.drop 3 := by
        match ns, hl, hn0, hn1, hn2 with
        | a0 :: a1 :: a2 :: l, _, hn0, hn1, hn2 =>
          obtain rfl := Option.some.inj hn0
          obtain rfl := Option.some.inj hn1
          obtain rfl := Option.some.inj hn2
          rfl
      rw [hd]; show Sc.rangeOk [(1, 8), (-2147483648, 2147483647), (1, 4096)] _ = _
      rw [range_cons, range_cons, range_cons, range_nil]
    rw [e]
    repeat' first | refine offE rfl ?_ | refine onE rfl ?_
    obtain ⟨b0, o0, hp0, hr0⟩ := ns_at (hnr) hn0
    refine ⟨by decide, by show (0 : Int) < ((ns.length : Nat) : Int); omega, b0, o0, hp0, n0, trivial, hr0, ⟨_, rfl, rfl, rfl⟩, .inl ⟨_, _, _, within_spec S n0 (1, 8), fun S1 _ hS1 _ => ?_⟩⟩
    cases hq0 : inB (1, 8) n0 with
    | false => exact onF (onF ⟨rfl, (), rfl, trivial⟩)
    | true =>
    refine onT ?_
    obtain ⟨b1, o1, hp1, hr1⟩ := ns_at (hnr.le hS1) hn1
    refine ⟨by decide, by show (1 : Int) < ((ns.length : Nat) : Int); omega, b1, o1, hp1, n1, trivial, hr1, ⟨_, rfl, rfl, rfl⟩, .inl ⟨_, _, _, within_spec S1 n1 ((-2147483648), 2147483647), fun S2 _ hS2 _ => ?_⟩⟩
    cases hq1 : inB (-2147483648, 2147483647) n1 with
    | false => exact onF ⟨rfl, (), rfl, trivial⟩
    | true =>
    refine onT ?_
    obtain ⟨b2, o2, hp2, hr2⟩ := ns_at ((hnr.le hS1).le hS2) hn2
    exact ⟨by decide, by show (2 : Int) < ((ns.length : Nat) : Int); omega, b2, o2, hp2, n2, trivial, hr2, ⟨_, rfl, rfl, rfl⟩, .inl ⟨_, _, _, within_spec S2 n2 (1, 4096), fun _ _ _ _ => ⟨rfl, (), by simp only [Bool.true_and, Bool.and_true]; rfl, trivial⟩⟩⟩
  · have hl : 1 ≤ ns.length := hl
    obtain ⟨n0, hn0⟩ : ∃ n, ns[0]? = some n := ⟨_, List.getElem?_eq_getElem (by omega)⟩
    have e : Sc.rangeOk (Sc.bnds 4) ns = (inB (1, 8) n0 && true) := by
      have hd : ns = n0 :: ns.drop 1 := by
        match ns, hl, hn0 with
        | a0 :: l, _, hn0 =>
          obtain rfl := Option.some.inj hn0
          rfl
      rw [hd]; show Sc.rangeOk [(1, 8)] _ = _
      rw [range_cons, range_nil]
    rw [e]
    repeat' first | refine offE rfl ?_ | refine onE rfl ?_
    obtain ⟨b0, o0, hp0, hr0⟩ := ns_at (hnr) hn0
    exact ⟨by decide, by show (0 : Int) < ((ns.length : Nat) : Int); omega, b0, o0, hp0, n0, trivial, hr0, ⟨_, rfl, rfl, rfl⟩, .inl ⟨_, _, _, within_spec S n0 (1, 8), fun _ _ _ _ => ⟨rfl, (), by rw [Bool.and_true]; rfl, trivial⟩⟩⟩
  · have hl : 1 ≤ ns.length := hl
    obtain ⟨n0, hn0⟩ : ∃ n, ns[0]? = some n := ⟨_, List.getElem?_eq_getElem (by omega)⟩
    have e : Sc.rangeOk (Sc.bnds 5) ns = (inB (-2147483648, 2147483647) n0 && true) := by
      have hd : ns = n0 :: ns.drop 1 := by
        match ns, hl, hn0 with
        | a0 :: l, _, hn0 =>
          obtain rfl := Option.some.inj hn0
          rfl
      rw [hd]; show Sc.rangeOk [(-2147483648, 2147483647)] _ = _
      rw [range_cons, range_nil]
    rw [e]
    repeat' first | refine offE rfl ?_ | refine onE rfl ?_
    obtain ⟨b0, o0, hp0, hr0⟩ := ns_at (hnr) hn0
    exact ⟨by decide, by show (0 : Int) < ((ns.length : Nat) : Int); omega, b0, o0, hp0, n0, trivial, hr0, ⟨_, rfl, rfl, rfl⟩, .inl ⟨_, _, _, within_spec S n0 ((-2147483648), 2147483647), fun _ _ _ _ => ⟨rfl, (), by rw [Bool.and_true]; rfl, trivial⟩⟩⟩
  · have hl : 3 ≤ ns.length := hl
    obtain ⟨n0, hn0⟩ : ∃ n, ns[0]? = some n := ⟨_, List.getElem?_eq_getElem (by omega)⟩
    obtain ⟨n1, hn1⟩ : ∃ n, ns[1]? = some n := ⟨_, List.getElem?_eq_getElem (by omega)⟩
    obtain ⟨n2, hn2⟩ : ∃ n, ns[2]? = some n := ⟨_, List.getElem?_eq_getElem (by omega)⟩
    have e : Sc.rangeOk (Sc.bnds 6) ns = (inB (0, 9223372036854775807) n0 && (inB (1, 4096) n1 && (inB (0, 64) n2 && true))) := by
      have hd : ns = n0 :: n1 :: n2 :: ns.drop 3 := by
        match ns, hl, hn0, hn1, hn2 with
        | a0 :: a1 :: a2 :: l, _, hn0, hn1, hn2 =>
          obtain rfl := Option.some.inj hn0
          obtain rfl := Option.some.inj hn1
          obtain rfl := Option.some.inj hn2
          rfl
      rw [hd]; show Sc.rangeOk [(0, 9223372036854775807), (1, 4096), (0, 64)] _ = _
      rw [range_cons, range_cons, range_cons, range_nil]
    rw [e]
    repeat' first | refine offE rfl ?_ | refine onE rfl ?_
    obtain ⟨b0, o0, hp0, hr0⟩ := ns_at hnr hn0
    refine ⟨by decide, by show (0 : Int) < ((ns.length : Nat) : Int); omega, b0, o0, hp0, n0, trivial, hr0, ?_⟩
    have hb0 : n0 ≤ 9223372036854775807 := (hni n0 (List.mem_of_getElem? hn0)).2
    by_cases hz : n0 ≥ 0
    rotate_left
    · refine offE (decide_eq_false hz) (onF ⟨rfl, (), ?_, trivial⟩)
      have : inB (0, 9223372036854775807) n0 = false := by unfold inB; rw [decide_eq_false (show ¬ (0 : Int) ≤ n0 from hz)]; rfl
      rw [this]; rfl
    have hq0 : inB (0, 9223372036854775807) n0 = true := by unfold inB; rw [decide_eq_true (show (0 : Int) ≤ n0 from hz), decide_eq_true (show n0 ≤ 9223372036854775807 from hb0)]; rfl
    rw [hq0]
    refine onE (decide_eq_true hz) ?_
    obtain ⟨b1, o1, hp1, hr1⟩ := ns_at (hnr) hn1
    refine ⟨by decide, by show (1 : Int) < ((ns.length : Nat) : Int); omega, b1, o1, hp1, n1, trivial, hr1, ⟨_, rfl, rfl, rfl⟩, .inl ⟨_, _, _, within_spec S n1 (1, 4096), fun S2 _ hS2 _ => ?_⟩⟩
    cases hq1 : inB (1, 4096) n1 with
    | false => exact onF ⟨rfl, (), rfl, trivial⟩
    | true =>
    refine onT ?_
    obtain ⟨b2, o2, hp2, hr2⟩ := ns_at (hnr.le hS2) hn2
    exact ⟨by decide, by show (2 : Int) < ((ns.length : Nat) : Int); omega, b2, o2, hp2, n2, trivial, hr2, ⟨_, rfl, rfl, rfl⟩, .inl ⟨_, _, _, within_spec S2 n2 (0, 64), fun _ _ _ _ => ⟨rfl, (), by simp only [Bool.true_and, Bool.and_true]; rfl, trivial⟩⟩⟩
  · have hl : 1 ≤ ns.length := hl
    obtain ⟨n0, hn0⟩ : ∃ n, ns[0]? = some n := ⟨_, List.getElem?_eq_getElem (by omega)⟩
    have e : Sc.rangeOk (Sc.bnds 7) ns = (inB (1, 4096) n0 && true) := by
      have hd : ns = n0 :: ns.drop 1 := by
        match ns, hl, hn0 with
        | a0 :: l, _, hn0 =>
          obtain rfl := Option.some.inj hn0
          rfl
      rw [hd]; show Sc.rangeOk [(1, 4096)] _ = _
      rw [range_cons, range_nil]
    rw [e]
    repeat' first | refine offE rfl ?_ | refine onE rfl ?_
    obtain ⟨b0, o0, hp0, hr0⟩ := ns_at (hnr) hn0
    exact ⟨by decide, by show (0 : Int) < ((ns.length : Nat) : Int); omega, b0, o0, hp0, n0, trivial, hr0, ⟨_, rfl, rfl, rfl⟩, .inl ⟨_, _, _, within_spec S n0 (1, 4096), fun _ _ _ _ => ⟨rfl, (), by rw [Bool.and_true]; rfl, trivial⟩⟩⟩
  · have e : Sc.rangeOk (Sc.bnds 8) ns = true := range_nil ns
    rw [e]
    (repeat' first | exact ⟨rfl, (), rfl, trivial⟩ | refine offE rfl ?_ | refine onE rfl ?_)
  · have hl : 1 ≤ ns.length := hl
    obtain ⟨n0, hn0⟩ : ∃ n, ns[0]? = some n := ⟨_, List.getElem?_eq_getElem (by omega)⟩
    have e : Sc.rangeOk (Sc.bnds 9) ns = (inB (1, 8) n0 && true) := by
      have hd : ns = n0 :: ns.drop 1 := by
        match ns, hl, hn0 with
        | a0 :: l, _, hn0 =>
          obtain rfl := Option.some.inj hn0
          rfl
      rw [hd]; show Sc.rangeOk [(1, 8)] _ = _
      rw [range_cons, range_nil]
    rw [e]
    repeat' first | refine offE rfl ?_ | refine onE rfl ?_
    obtain ⟨b0, o0, hp0, hr0⟩ := ns_at (hnr) hn0
    exact ⟨by decide, by show (0 : Int) < ((ns.length : Nat) : Int); omega, b0, o0, hp0, n0, trivial, hr0, ⟨_, rfl, rfl, rfl⟩, .inl ⟨_, _, _, within_spec S n0 (1, 8), fun _ _ _ _ => ⟨rfl, (), by rw [Bool.and_true]; rfl, trivial⟩⟩⟩
  · have e : Sc.rangeOk (Sc.bnds 10) ns = true := range_nil ns
    rw [e]
    (repeat' first | exact ⟨rfl, (), rfl, trivial⟩ | refine offE rfl ?_ | refine onE rfl ?_)
  · have e : Sc.rangeOk (Sc.bnds 11) ns = true := range_nil ns
    rw [e]
    (repeat' first | exact ⟨rfl, (), rfl, trivial⟩ | refine offE rfl ?_ | refine onE rfl ?_)
  · have e : Sc.rangeOk (Sc.bnds 12) ns = true := range_nil ns
    rw [e]
    (repeat' first | exact ⟨rfl, (), rfl, trivial⟩ | refine offE rfl ?_ | refine onE rfl ?_)
  · have e : Sc.rangeOk (Sc.bnds 13) ns = true := range_nil ns
    rw [e]
    (repeat' first | exact ⟨rfl, (), rfl, trivial⟩ | refine offE rfl ?_ | refine onE rfl ?_)
  · have e : Sc.rangeOk (Sc.bnds 14) ns = true := range_nil ns
    rw [e]
    (repeat' first | exact ⟨rfl, (), rfl, trivial⟩ | refine offE rfl ?_ | refine onE rfl ?_)
  · have e : Sc.rangeOk (Sc.bnds 15) ns = true := range_nil ns
    rw [e]
    (repeat' first | exact ⟨rfl, (), rfl, trivial⟩ | refine offE rfl ?_ | refine onE rfl ?_)
/-- The reference's test of a word. -/
def wordW (op : Int) (s : Sc.Bs) : Bool := if op = 1 then Sc.plainW s else Sc.namedW s
theorem bs_u8 {b : UInt8} {k : Nat} : (b.toNat : Int) = (k : Int) ↔ b.toNat = k := by omega
theorem all_snoc {P : UInt8 → Bool} {s : Sc.Bs} {i : Nat} {x : UInt8} (hx : s[i]? = some x) (h : (s.take i).all P = true) (hp : P x = true) : (s.take (i + 1)).all P = true := by
  rw [List.take_add_one, hx, List.all_append, h]; simp [hp]
theorem all_no {P : UInt8 → Bool} {s : Sc.Bs} {i : Nat} {x : UInt8} (hx : s[i]? = some x) (hp : P x = false) : s.all P = false := by
  cases h : s.all P with
  | false => rfl
  | true => rw [List.all_eq_true.1 h x (List.mem_of_getElem? hx)] at hp; cases hp
theorem word_spec (S : Store) (op : Int) (s : Sc.Bs) (hs : s.length ≤ 1000000000) : Pure Tryz.prog 14 S [.int .i64 op, .string (bs s)] (A := Unit) (fun _ => rB (wordW op s)) (fun _ _ => True) := by
  have hsz := bs_size s
  refine pure_vc agrees Tryz.func14 rfl rfl (fun S S' q hle h => h) ?_
  by_cases ho : op = 1
  · have e : wordW op s = Sc.plainW s := if_pos ho
    rw [e]
    refine onE (beq_iff_eq.2 ho) ?_
    refine ⟨[], [], Nat, List.range' 10 16, fun i => [(5, rI i)], fun _ => [], fun _ => S, fun i => i ≤ s.length ∧ (s.take i).all Sc.plainB = true, fun i => s.length - i, ?_⟩
    refine And.intro (Exists.intro 0 (And.intro (And.intro (And.intro ?_ rfl) (And.intro rfl (Store.le_refl _))) ⟨Nat.zero_le _, rfl⟩)) ?_
    · repeat' first | exact trivial | exact rfl | refine And.intro ?_ ?_
    rintro i ⟨hi, hall⟩
    have i0 : (0 : Int) ≤ ((i : Nat) : Int) := Int.natCast_nonneg _
    refine And.intro (fun h => ?_) (fun h => ?_)
    · have hil : i < s.length := by
        have h : ((i : Nat) : Int) < ((bs s).size : Int) := of_decide_eq_true h
        omega
      obtain ⟨x, hx⟩ : ∃ x, s[i]? = some x := ⟨_, List.getElem?_eq_getElem hil⟩
      refine ⟨i0, x, by rw [bs_get]; exact hx, ?_⟩
      by_cases hl : (x.toNat : Int) < 32
      · refine onE (decide_eq_true hl) (onT ⟨rfl, (), ?_, trivial⟩)
        have := all_no hx (P := Sc.plainB) (by unfold Sc.plainB; rw [decide_eq_false (show ¬ 32 ≤ x.toNat by omega)]; rfl)
        unfold Sc.plainW; rw [this, Bool.and_false]; rfl
      refine offE (decide_eq_false hl) ⟨i0, x, by rw [bs_get]; exact hx, ?_⟩
      by_cases hg : (x.toNat : Int) > 126
      · refine onE (decide_eq_true hg) ⟨rfl, (), ?_, trivial⟩
        have := all_no hx (P := Sc.plainB) (by unfold Sc.plainB; rw [decide_eq_false (show ¬ x.toNat ≤ 126 by omega), Bool.and_false])
        unfold Sc.plainW; rw [this, Bool.and_false]; rfl
      · refine offE (decide_eq_false hg) ⟨((i + 1 : Nat) : Int), wrap_i64 (by omega) (by omega), i + 1, ⟨⟨?_, rfl⟩, rfl, Store.le_refl _⟩, ⟨hil, all_snoc hx hall (by unfold Sc.plainB; rw [decide_eq_true (show 32 ≤ x.toNat by omega), decide_eq_true (show x.toNat ≤ 126 by omega)]; rfl)⟩, by show s.length - (i + 1) < s.length - i; omega⟩
        repeat' first | exact trivial | exact rfl | refine And.intro ?_ ?_
    · have hil : i = s.length := by
        have h : ¬ ((i : Nat) : Int) < ((bs s).size : Int) := of_decide_eq_false h
        omega
      subst hil
      rw [List.take_length] at hall
      refine ⟨rfl, (), ?_, trivial⟩
      unfold Sc.plainW
      rw [hall, Bool.and_true]
      have : decide (s.length ≤ 255) = decide (((bs s).size : Int) ≤ 255) := decide_eq_decide.2 (by omega)
      rw [this]; rfl
  · have e : wordW op s = Sc.namedW s := if_neg ho
    rw [e]
    refine offE (beq_eq_false_iff_ne.2 ho) ?_
    refine ⟨[], [], Nat, [7] ++ List.range' 29 36, fun i => [(6, rI i)], fun _ => [], fun _ => S, fun i => i ≤ s.length ∧ (s.take i).all Sc.nameB = true, fun i => s.length - i, ?_⟩
    refine And.intro (Exists.intro 0 (And.intro (And.intro (And.intro ?_ rfl) (And.intro rfl (Store.le_refl _))) ⟨Nat.zero_le _, rfl⟩)) ?_
    · repeat' first | exact trivial | exact rfl | refine And.intro ?_ ?_
    rintro i ⟨hi, hall⟩
    have i0 : (0 : Int) ≤ ((i : Nat) : Int) := Int.natCast_nonneg _
    refine And.intro (fun h => ?_) (fun h => ?_)
    · have hil : i < s.length := by
        have h : ((i : Nat) : Int) < ((bs s).size : Int) := of_decide_eq_true h
        omega
      obtain ⟨x, hx⟩ : ∃ x, s[i]? = some x := ⟨_, List.getElem?_eq_getElem hil⟩
      refine ⟨i0, x, by rw [bs_get]; exact hx, ?_⟩
      have key : Sc.nameB x = (decide (97 ≤ x.toNat ∧ x.toNat ≤ 122) || decide (65 ≤ x.toNat ∧ x.toNat ≤ 90) || decide (48 ≤ x.toNat ∧ x.toNat ≤ 57) || decide (x.toNat = 95)) := by
        unfold Sc.nameB; simp only [Bool.decide_and]
      have hcl : x.toNat < 48 ∨ (48 ≤ x.toNat ∧ x.toNat ≤ 57) ∨ (58 ≤ x.toNat ∧ x.toNat ≤ 64) ∨ (65 ≤ x.toNat ∧ x.toNat ≤ 90) ∨ (91 ≤ x.toNat ∧ x.toNat ≤ 96 ∧ x.toNat ≠ 95) ∨ x.toNat = 95 ∨ (97 ≤ x.toNat ∧ x.toNat ≤ 122) ∨ 123 ≤ x.toNat := by omega
      have bad : Sc.nameB x = false → rB (Sc.namedW s) = rB false := fun q => by
        unfold Sc.namedW; rw [all_no hx q, Bool.and_false, Bool.and_false]
      rcases hcl with hc | hc | hc | hc | hc | hc | hc | hc
      all_goals
        (repeat' first | refine onT ?_ | refine onF ?_ | refine onE (decide_eq_true (by omega)) ?_ | refine offE (decide_eq_false (by omega)) ?_ | refine onE (ntF (beq_eq_false_iff_ne.2 (by omega))) ?_ | refine offE (ntT (beq_iff_eq.2 (by omega))) ?_ | refine onE (ntF (decide_eq_false (by omega))) ?_ | refine offE (ntT (decide_eq_true (by omega))) ?_ | refine onE (beq_iff_eq.2 (by omega)) ?_ | refine offE (beq_eq_false_iff_ne.2 (by omega)) ?_)
      all_goals first
        | exact ⟨rfl, (), bad (by rw [key, decide_eq_false (by omega), decide_eq_false (by omega), decide_eq_false (by omega), decide_eq_false (by omega)]; rfl), trivial⟩
        | (refine ⟨((i + 1 : Nat) : Int), wrap_i64 (by omega) (by omega), i + 1, ⟨⟨?_, rfl⟩, rfl, Store.le_refl _⟩, ⟨hil, all_snoc hx hall ?_⟩, by show s.length - (i + 1) < s.length - i; omega⟩
           · repeat' first | exact trivial | exact rfl | refine And.intro ?_ ?_
           · rw [key]; simp only [Bool.or_eq_true, decide_eq_true_eq]; omega)
    · have hil : i = s.length := by
        have h : ¬ ((i : Nat) : Int) < ((bs s).size : Int) := of_decide_eq_false h
        omega
      subst hil
      rw [List.take_length] at hall
      unfold Sc.namedW
      rw [hall, Bool.and_true]
      by_cases h1 : 1 ≤ s.length
      · refine onE (decide_eq_true (by show ((bs s).size : Int) ≥ 1; omega)) ⟨rfl, (), ?_, trivial⟩
        rw [decide_eq_true h1, Bool.true_and]
        have : decide (s.length ≤ 24) = decide (((bs s).size : Int) ≤ 24) := decide_eq_decide.2 (by omega)
        rw [this]; rfl
      · refine offE (decide_eq_false (by show ¬ ((bs s).size : Int) ≥ 1; omega)) ⟨rfl, (), ?_, trivial⟩
        rw [decide_eq_false h1, Bool.false_and]; rfl
end Go.Proofs.YtikpdgjdeikinaaGreatDoor
