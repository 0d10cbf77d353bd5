/- law29: decimal numerals; the message of a panic value. -/
import Derived.Test.YtjlkekebhgjlcaaDoorTt
import Derived.Test.YtjlkekebhgjlcaaDoorVcN
import Derived.Test.YtjlkekebhgjlcaaDoorOr
import Derived.Test.YtjlkekebhgjlcaaDoorSh
namespace Go.Proofs.YtjlkekebhgjlcaaDoor
open Go Go.Vc Go.Sort
set_option maxRecDepth 100000

@[reducible] def rB (b : Bool) : SV := .c (.v (.bool b))
@[reducible] def rI (n : Int) : SV := .c (.v (.int .i64 n))
@[reducible] def rS (s : ByteArray) : SV := .c (.v (.string s))
def inI64 (n : Int) : Prop := -9223372036854775808 ≤ n ∧ n ≤ 9223372036854775807
/-- A decimal numeral. -/
def dec (n : Int) : ByteArray := ⟨(Lib.itoa n).toArray⟩

/-- The store knows the table of powers of ten. -/
def Tab (S : Store) : Prop := ∃ T z, S.o 0 = some (.cells (Lib.pow10Tab.map fun z => Value.int .u64 z).toArray T z)
theorem gPow : Tryd.prog.globalNamed "internal/strconv.uint64pow10" = some 0 := by kernel_rfl
theorem Tab.le {S S' : Store} (h : S.le S') (hT : Tab S) : Tab S' := by
  obtain ⟨T, z, h1⟩ := hT
  exact ⟨T, z, h.2 _ _ h1⟩
theorem Tab.is {S : Store} (hT : Tab S) {w : World} (h : S.le (Store.of w)) : Lib.TabIs Tryd.prog w "internal/strconv.uint64pow10" .u64 Lib.pow10Tab := by
  obtain ⟨T, z, h1⟩ := hT
  have h2 : w.heap[0]? = some _ := h.2 _ _ h1
  simp only [Lib.TabIs, World.var?, gPow, Option.bind_some, h2]

/-- A contract of the library's whose call makes new blocks alone. -/
theorem pure_grow {f : FuncId} {S : Store} {args : List Value} {v : Value} (hv : v.oneCell' = true) (h : ∀ w : World, S.le (Store.of w) → Calls Tryd.prog f args.toArray w fun e w' => e = .returned v ∧ ∃ k os, w' = grow (w.drewN k) os) :
    Pure Tryd.prog f S args (A := Unit) (fun _ => .c (.v v)) (fun _ _ => True) := by
  intro w hw
  refine (h w hw).mono ?_
  rintro e w' ⟨rfl, k, os, rfl⟩
  have hold : Old w (grow (w.drewN k) os) := ⟨rfl, rfl, rfl, by simp [grow, World.drewN], fun i hi => by
    show (w.heap ++ os)[i]? = w.heap[i]?
    rw [Array.getElem?_append_left hi]⟩
  refine ⟨v, (), S, rfl, ⟨rfl, hv⟩, Store.le_refl _, Store.le_of hw (fun b hk => hold.block b ?_), hold, fun _ _ => ⟨fun _ => rfl, rfl⟩, trivial⟩
  rcases Nat.lt_or_ge b w.heap.size with hb | hb
  · exact hb
  · have := Store.lt_of hw hb
    rcases hk with ⟨o, x, hx⟩ | ⟨x, hx⟩
    · rw [this.1 o] at hx; cases hx
    · rw [this.2] at hx; cases hx

theorem format_spec (S : Store) (hT : Tab S) (n : Int) (hn : inI64 n) : Pure Tryd.prog 31 S [.int .i64 n, .int .i64 10] (A := Unit) (fun _ => rS (dec n)) (fun _ _ => True) :=
  pure_grow rfl fun w hw => Tryd.strconv_FormatInt_10 n hn.1 hn.2 w (hT.is hw)
theorem itoa_spec (S : Store) (hT : Tab S) (n : Int) (hn : inI64 n) : Pure Tryd.prog 30 S [.int .i64 n] (A := Unit) (fun _ => rS (dec n)) (fun _ _ => True) :=
  pure_grow rfl fun w hw => Tryd.strconv_Itoa n hn.1 hn.2 w (hT.is hw)

theorem bytes_append (a b : List UInt8) : (⟨a.toArray⟩ : ByteArray) ++ ⟨b.toArray⟩ = ⟨(a ++ b).toArray⟩ := by
  apply ByteArray.ext
  rw [ByteArray.data_append]
  simp
theorem dec_length : ∀ (k u : Nat), u < 10 ^ (k + 1) → (Lib.decDigits u).length ≤ k + 1
  | 0, u, h => by rw [Lib.decDigits, dif_pos (by simpa using h)]; simp
  | k + 1, u, h => by
    rw [Lib.decDigits]
    split
    · simp
    · have := dec_length k (u / 10) (by rw [Nat.pow_succ] at h; omega)
      simp only [List.length_append, List.length_cons, List.length_nil]
      omega
theorem dec_size {n : Int} (h : inI64 n) : (dec n).size ≤ 21 := by
  have h1 := dec_length 19 n.natAbs (by obtain ⟨h1, h2⟩ := h; omega)
  have h2 := dec_length 19 n.toNat (by obtain ⟨h1, h2⟩ := h; omega)
  show (Lib.itoa n).toArray.size ≤ 21
  rw [List.size_toArray, Lib.itoa]
  split
  · simp only [List.length_cons]; omega
  · omega
theorem dec_one {n : Int} (h0 : 0 ≤ n) (h1 : n < 10) : dec n = bytesOf [48 + n] := by
  unfold dec Lib.itoa
  rw [if_neg (by omega), Lib.decDigits_one (by omega)]
  show _ = ByteArray.empty.push (UInt8.ofNat (48 + n).toNat)
  rw [show (48 + n).toNat = 48 + n.toNat by omega]
  rfl
theorem dec_two {n : Int} (h1 : 10 ≤ n) : dec n = dec (n / 10) ++ dec (n % 10) := by
  unfold dec Lib.itoa
  rw [if_neg (by omega), if_neg (by omega), if_neg (by omega), bytes_append]
  congr 2
  rw [Lib.decDigits, dif_neg (by omega), Lib.decDigits_one (i := (n % 10).toNat) (by omega)]
  rw [show (n / 10).toNat = n.toNat / 10 by omega, show (n % 10).toNat = n.toNat % 10 by omega]
theorem dec_neg {n : Int} (h1 : n < 0) : dec n = bytesOf [45] ++ dec (-n) := by
  unfold dec Lib.itoa
  rw [if_pos h1, if_neg (by omega)]
  show _ = (⟨[45].toArray⟩ : ByteArray) ++ _
  rw [bytes_append, show (-n).toNat = n.natAbs by omega]
  rfl

theorem wrap_u8 {x : Int} (h1 : 0 ≤ x) (h2 : x ≤ 255) : IntKind.u8.wrap x = x := by
  unfold IntKind.wrap
  have : (IntKind.u8.bits) = 8 := rfl
  simp [IntKind.signed, this]
  omega
theorem digits_pos : ∀ (k : Nat) (S : Store) (n : Int), inI64 n → 0 ≤ n → n.natAbs ≤ k → Pure Tryd.prog 10 S [.int .i64 n] (A := Unit) (fun _ => rS (dec n)) (fun _ _ => True) := by
  intro k
  induction k with
  | zero =>
    intro S n hn h0 hk
    obtain rfl : n = 0 := by omega
    refine pure_vc agrees Tryd.func10 rfl rfl (fun S S' q hle h => h) ?_
    exact onF (onT ⟨48, by decide, 48, by decide, rfl, (), by rw [dec_one (by decide) (by decide)]; rfl, trivial⟩)
  | succ k ih =>
    intro S n hn h0 hk
    refine pure_vc agrees Tryd.func10 rfl rfl (fun S S' q hle h => h) ?_
    have hn1 := hn.1
    have hn2 := hn.2
    refine And.intro (fun h => absurd (of_decide_eq_true h) (by omega)) (fun h => ?_)
    refine And.intro (fun h1 => ?_) (fun h1 => ?_)
    · have h1 := of_decide_eq_true h1
      refine ⟨48 + n, wrap_i64 (by omega) (by omega), 48 + n, wrap_u8 (by omega) (by omega), rfl, (), by rw [dec_one h0 h1]; rfl, trivial⟩
    · have h1 := of_decide_eq_false h1
      have hq : n.tdiv 10 = n / 10 := Int.tdiv_eq_ediv_of_nonneg h0
      have hr : n.tmod 10 = n % 10 := Int.tmod_eq_emod_of_nonneg h0
      have hs1 := dec_size (n := n / 10) ⟨by omega, by omega⟩
      have hs2 := dec_size (n := n % 10) ⟨by omega, by omega⟩
      refine ⟨by decide, n / 10, by rw [hq]; exact wrap_i64 (by omega) (by omega), ⟨_, rfl, rfl, rfl⟩, .inl ⟨_, _, _, ih S (n / 10) ⟨by omega, by omega⟩ (by omega) (by omega), fun S1 x hS1 hx => ?_⟩⟩
      refine ⟨by decide, n % 10, hr, ⟨_, rfl, rfl, rfl⟩, .inl ⟨_, _, _, ih S1 (n % 10) ⟨by omega, by omega⟩ (by omega) (by omega), fun S2 x hS2 hx => ?_⟩⟩
      exact ⟨by omega, rfl, (), by rw [dec_two (by omega)]; rfl, trivial⟩
theorem digits_neg : ∀ (k : Nat) (S : Store) (n : Int), inI64 n → n < 0 → n.natAbs ≤ k → Pure Tryd.prog 10 S [.int .i64 n] (A := Unit) (fun _ => rS (dec n)) (fun _ _ => True) := by
  intro k
  induction k with
  | zero => intro S n hn h0 hk; omega
  | succ k ih =>
    intro S n hn h0 hk
    refine pure_vc agrees Tryd.func10 rfl rfl (fun S S' q hle h => h) ?_
    have hn1 := hn.1
    have hn2 := hn.2
    refine And.intro (fun h => ?_) (fun h => absurd (of_decide_eq_false h) (by omega))
    refine And.intro (fun h1 => ?_) (fun h1 => ?_)
    · have h1 : n > -10 := of_decide_eq_true h1
      have hs := dec_size (n := -n) ⟨by omega, by omega⟩
      refine ⟨-n, by rw [show (0 : Int) - n = -n by omega]; exact wrap_i64 (by omega) (by omega), ⟨_, rfl, rfl, rfl⟩, .inl ⟨_, _, _, digits_pos _ S (-n) ⟨by omega, by omega⟩ (by omega) (Nat.le_refl _), fun S1 x hS1 hx => ?_⟩⟩
      refine ⟨?_, rfl, (), by rw [dec_neg h0]; rfl, trivial⟩
      show 1 + (dec (-n)).size ≤ _
      omega
    · have h1 : ¬ n > -10 := of_decide_eq_false h1
      obtain ⟨m, rfl⟩ : ∃ m, n = -m := ⟨-n, by omega⟩
      have hq : (-m).tdiv 10 = -(m / 10) := by rw [Int.neg_tdiv, Int.tdiv_eq_ediv_of_nonneg (by omega)]
      have hr : (-m).tmod 10 = -(m % 10) := by rw [Int.neg_tmod, Int.tmod_eq_emod_of_nonneg (by omega)]
      have hs1 := dec_size (n := -(m / 10)) ⟨by omega, by omega⟩
      have hs2 := dec_size (n := m % 10) ⟨by omega, by omega⟩
      refine ⟨by decide, -(m / 10), by rw [hq]; exact wrap_i64 (by omega) (by omega), ⟨_, rfl, rfl, rfl⟩, .inl ⟨_, _, _, ih S (-(m / 10)) ⟨by omega, by omega⟩ (by omega) (by omega), fun S1 x hS1 hx => ?_⟩⟩
      refine ⟨by decide, -(m % 10), hr, m % 10, by rw [show (0 : Int) - -(m % 10) = m % 10 by omega]; exact wrap_i64 (by omega) (by omega), ⟨_, rfl, rfl, rfl⟩, .inl ⟨_, _, _, digits_pos _ S1 (m % 10) ⟨by omega, by omega⟩ (by omega) (Nat.le_refl _), fun S2 x hS2 hx => ?_⟩⟩
      refine ⟨by omega, rfl, (), ?_, trivial⟩
      show rS _ = rS (dec (-(m / 10)) ++ dec (m % 10))
      rw [dec_neg (n := -m) h0, dec_neg (n := -(m / 10)) (by omega), Int.neg_neg, Int.neg_neg, dec_two (by omega), ByteArray.append_assoc]
/-- The reference's numeral. -/
theorem digits_spec (S : Store) (n : Int) (hn : inI64 n) : Pure Tryd.prog 10 S [.int .i64 n] (A := Unit) (fun _ => rS (dec n)) (fun _ _ => True) := by
  by_cases h : n < 0
  · exact digits_neg _ S n hn h (Nat.le_refl _)
  · exact digits_pos _ S n hn (by omega) (Nat.le_refl _)

theorem said_string (S : Store) (s : ByteArray) : Pure Tryd.prog 24 S [.iface 9 (.string s)] (A := Unit) (fun _ => rS s) (fun _ _ => True) := by
  refine pure_vc agrees Tryd.func24 rfl rfl (fun S S' q hle h => h) ?_
  exact ⟨(false, true), by kernel_rfl, rfl, onT ⟨rfl, (), rfl, trivial⟩⟩
theorem meth_wrong (s : ByteArray) : Meth Tryd.prog 25 (.agg #[.string s]) "Error" 94 (.agg #[.string s]) := fun w => by kernel_rfl
def wrongOf (s : ByteArray) : ByteArray := ⟨#[119, 114, 111, 110, 103, 58, 32]⟩ ++ s
theorem error_spec (S : Store) (s : ByteArray) (hs : s.size ≤ 1000000000000000) : Pure Tryd.prog 94 S [.agg #[.string s]] (A := Unit) (fun _ => rS (wrongOf s)) (fun _ _ => True) := by
  refine pure_vc agrees Tryd.func94 rfl rfl (fun S S' q hle h => h) ?_
  exact ⟨by show 7 + s.size ≤ _; omega, rfl, (), rfl, trivial⟩
theorem said_wrong (S : Store) (s : ByteArray) (hs : s.size ≤ 1000000000000000) : Pure Tryd.prog 24 S [.iface 25 (.agg #[.string s])] (A := Unit) (fun _ => rS (wrongOf s)) (fun _ _ => True) := by
  refine pure_vc agrees Tryd.func24 rfl rfl (fun S S' q hle h => h) ?_
  refine ⟨(false, false), by kernel_rfl, onF ?_⟩
  refine ⟨(true, true), by kernel_rfl, onT (.inl ⟨94, _, meth_wrong s, rfl, ⟨_, rfl, rfl, rfl⟩, .inl ⟨_, _, _, error_spec S s hs, fun S1 x hS1 hx => ⟨rfl, (), rfl, trivial⟩⟩⟩)⟩
theorem meth_divide : MethV Tryd.prog 10 (.string "integer divide by zero".toUTF8) "Error" (.string "runtime error: integer divide by zero".toUTF8) := fun w => by kernel_rfl
theorem said_divide (S : Store) : Pure Tryd.prog 24 S [.iface 10 (.string "integer divide by zero".toUTF8)] (A := Unit) (fun _ => rS "runtime error: integer divide by zero".toUTF8) (fun _ _ => True) := by
  refine pure_vc agrees Tryd.func24 rfl rfl (fun S S' q hle h => h) ?_
  refine ⟨(false, false), by kernel_rfl, onF ?_⟩
  refine ⟨(true, true), by kernel_rfl, onT (.inr ⟨_, meth_divide, rfl, rfl, rfl, (), rfl, trivial⟩)⟩
theorem said_int (S : Store) (hT : Tab S) (n : Int) (hn : inI64 n) : Pure Tryd.prog 24 S [.iface 3 (.int .i64 n)] (A := Unit) (fun _ => rS (dec n)) (fun _ _ => True) := by
  refine pure_vc agrees Tryd.func24 rfl rfl (fun S S' q hle h => h) ?_
  refine ⟨(false, false), by kernel_rfl, onF ?_⟩
  refine ⟨(true, false), by kernel_rfl, onF ?_⟩
  refine ⟨(false, true), by kernel_rfl, rfl, onT ?_⟩
  exact ⟨⟨_, rfl, rfl, rfl⟩, .inl ⟨_, _, _, itoa_spec S hT n hn, fun S1 x hS1 hx => ⟨rfl, (), rfl, trivial⟩⟩⟩
theorem said_int64 (S : Store) (hT : Tab S) (n : Int) (hn : inI64 n) : Pure Tryd.prog 24 S [.iface 2 (.int .i64 n)] (A := Unit) (fun _ => rS (dec n)) (fun _ _ => True) := by
  refine pure_vc agrees Tryd.func24 rfl rfl (fun S S' q hle h => h) ?_
  refine ⟨(false, false), by kernel_rfl, onF ?_⟩
  refine ⟨(true, false), by kernel_rfl, onF ?_⟩
  refine ⟨(false, false), by kernel_rfl, onF ?_⟩
  refine ⟨(false, true), by kernel_rfl, rfl, onT ?_⟩
  exact ⟨⟨_, rfl, rfl, rfl⟩, .inl ⟨_, _, _, format_spec S hT n hn, fun S1 x hS1 hx => ⟨rfl, (), rfl, trivial⟩⟩⟩
theorem said_other (S : Store) (p : Option Addr) (n c : Nat) : Pure Tryd.prog 24 S [.iface 26 (.slice p n c)] (A := Unit) (fun _ => rS ⟨#[63]⟩) (fun _ _ => True) := by
  refine pure_vc agrees Tryd.func24 rfl rfl (fun S S' q hle h => h) ?_
  refine ⟨(false, false), by kernel_rfl, onF ?_⟩
  refine ⟨(true, false), by kernel_rfl, onF ?_⟩
  refine ⟨(false, false), by kernel_rfl, onF ?_⟩
  refine ⟨(false, false), by kernel_rfl, onF ?_⟩
  exact ⟨rfl, (), rfl, trivial⟩
end Go.Proofs.YtjlkekebhgjlcaaDoor
