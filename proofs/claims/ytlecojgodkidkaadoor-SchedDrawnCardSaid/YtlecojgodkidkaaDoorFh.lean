/- law07: the reference's number. -/
import Derived.Test.YtlecojgodkidkaaDoorFg
namespace Go.Proofs.YtlecojgodkidkaaDoor
open Go Go.Vc
set_option maxRecDepth 100000

def capN (m : List UInt8) (i : Nat) : Int := ((Txt.capFrom 1099511627776 0 false (m.take i)).1 : Int)
def capC (m : List UInt8) (i : Nat) : Int := if (Txt.capFrom 1099511627776 0 false (m.take i)).2 then 3 else 0
theorem cap_snoc (B : Nat) (x : UInt8) : ∀ (l : List UInt8) (a : Nat) (b : Bool), Txt.capFrom B a b (l ++ [x]) =
    if (Txt.capFrom B a b l).1 * 10 + (x.toNat - 48) > B then (B, true) else ((Txt.capFrom B a b l).1 * 10 + (x.toNat - 48), (Txt.capFrom B a b l).2)
  | [], a, b => rfl
  | c :: l, a, b => by
    rw [List.cons_append, Txt.capFrom, Txt.capFrom]
    split
    · exact cap_snoc B x l B true
    · exact cap_snoc B x l _ b
theorem cap_bound (B : Nat) : ∀ (l : List UInt8) (a : Nat) (b : Bool), a ≤ B → (Txt.capFrom B a b l).1 ≤ B
  | [], a, b, h => h
  | c :: l, a, b, h => by
    rw [Txt.capFrom]
    split
    · exact cap_bound B l B true (Nat.le_refl _)
    · exact cap_bound B l _ b (by omega)
theorem cap_le (m : List UInt8) (i : Nat) : 0 ≤ capN m i ∧ capN m i ≤ 1099511627776 := by
  have := cap_bound 1099511627776 (m.take i) 0 false (by omega)
  unfold capN; omega
theorem cap_step {m : List UInt8} {i : Nat} {x : UInt8} (hx : m[i]? = some x) :
    capN m (i + 1) = (if capN m i * 10 + ((x.toNat - 48 : Nat) : Int) > 1099511627776 then 1099511627776 else capN m i * 10 + ((x.toNat - 48 : Nat) : Int)) ∧
    capC m (i + 1) = (if capN m i * 10 + ((x.toNat - 48 : Nat) : Int) > 1099511627776 then 3 else capC m i) := by
  unfold capN capC
  rw [List.take_add_one, hx]
  show ((Txt.capFrom 1099511627776 0 false (m.take i ++ [x])).1 : Int) = _ ∧ (if (Txt.capFrom 1099511627776 0 false (m.take i ++ [x])).2 = true then (3 : Int) else 0) = _
  rw [cap_snoc]
  by_cases h : (Txt.capFrom 1099511627776 0 false (m.take i)).1 * 10 + (x.toNat - 48) > 1099511627776
  · have hz : ((Txt.capFrom 1099511627776 0 false (m.take i)).1 : Int) * 10 + ((x.toNat - 48 : Nat) : Int) > 1099511627776 := by omega
    rw [if_pos h, if_pos hz, if_pos hz]
    exact ⟨rfl, rfl⟩
  · have hz : ¬ ((Txt.capFrom 1099511627776 0 false (m.take i)).1 : Int) * 10 + ((x.toNat - 48 : Nat) : Int) > 1099511627776 := by omega
    rw [if_neg h, if_neg hz, if_neg hz]
    exact ⟨by simp only; omega, rfl⟩
/-- The reference's number: the value and the code. -/
def refNum (s : List UInt8) : Int × Int := if Txt.canon s = true then (if Txt.isNeg s = true then -(capN (Txt.magOf s) (Txt.magOf s).length) else capN (Txt.magOf s) (Txt.magOf s).length, capC (Txt.magOf s) (Txt.magOf s).length) else (0, 5)
theorem num_bad (s : List UInt8) (h : Txt.canon s = false) : refNum s = (0, 5) := by rw [refNum, if_neg (by rw [h]; simp)]
theorem num_neg {s m : List UInt8} (hn : Txt.isNeg s = true) (hm : Txt.magOf s = m) (hc : Txt.canon s = true) : refNum s = (-(capN m m.length), capC m m.length) := by rw [refNum, if_pos hc, if_pos hn, hm]
theorem num_pos {s m : List UInt8} (hn : Txt.isNeg s = false) (hm : Txt.magOf s = m) (hc : Txt.canon s = true) : refNum s = (capN m m.length, capC m m.length) := by rw [refNum, if_pos hc, if_neg (by rw [hn]; simp), hm]
theorem dig_bad {s m : List UInt8} {i : Nat} {x : UInt8} (hx : m[i]? = some x) (hd : Txt.isDig x = false) (hm : Txt.magOf s = m) : Txt.canon s = false := by
  have h : m.all Txt.isDig = false := List.all_eq_false.2 ⟨x, List.mem_of_getElem? hx, by rw [hd]; simp⟩
  rw [Txt.canon, hm, h]; simp
theorem c48 {c : UInt8} (h : c ≠ 48) : ((c.toNat : Int) == 48) = false := by
  refine beq_eq_false_iff_ne.2 fun e => h ?_
  have e : c.toNat = 48 := by omega
  exact UInt8.toNat_inj.1 e
@[reducible] def rNN (x : Int × Int) : SV := .tup [(false, [.v (.int .i64 x.1)]), (false, [.v (.int .i64 x.2)])]
set_option maxHeartbeats 1000000 in
theorem refNum_spec (S : Store) (s : List UInt8) (hs : s.length ≤ 1000000) : Pure Tryd.prog 47 S [.string (bs s)] (A := Unit) (fun _ => rNN (refNum s)) (fun _ _ => True) := by
  refine pure_vc agrees Tryd.func47 rfl rfl (fun S S' q hle h => h) ?_
  rcases Txt.neg_cases s with ⟨hn, r, rfl⟩ | hn
  · have hm := Txt.magOf_neg (r := r)
    have hsz : (bs (45 :: r)).size = r.length + 1 := by rw [bs_size]; rfl
    refine onE (decide_eq_true (by rw [hsz]; omega)) ⟨by decide, 45, by rw [bs_get]; rfl, ?_⟩
    refine onT ⟨by decide, by show 1 ≤ (bs (45 :: r)).size; rw [hsz]; omega, Nat.le_refl _, ?_⟩
    have hx : (bs (45 :: r)).extract (Int.toNat 1) (bs (45 :: r)).size = bs r := by
      apply ByteArray.ext; apply Array.ext'
      rw [Lib.extract_data, hsz]
      show (r.take (r.length + 1 - 1)) = r
      simp
    by_cases h0 : r = []
    · exact onE ((congrArg (fun z : ByteArray => z.toList == ({ data := #[] } : ByteArray).toList) hx).trans (isE h0)) (onT ⟨rfl, (), (congrArg rNN (num_bad (45 :: r) (by rw [Txt.canon, hm, h0]; rfl))).trans rfl, trivial⟩)
    obtain ⟨c, q, rfl⟩ : ∃ c q, r = c :: q := by
      cases r with
      | nil => exact absurd rfl h0
      | cons c q => exact ⟨c, q, rfl⟩
    refine offE ((congrArg (fun z : ByteArray => z.toList == ({ data := #[] } : ByteArray).toList) hx).trans (isN h0)) ⟨by decide, c, (congrArg (fun z : ByteArray => z[0]?) hx).trans (by rw [bs_get]; rfl), ?_⟩
    by_cases h48 : c = 48
    · have hb : Txt.canon (45 :: c :: q) = false := by rw [Txt.canon, hm, h48]; simp
      refine onE (by rw [h48]; rfl) ?_
      refine And.intro (fun _ => ?_) (fun _ => ?_)
      · exact onT ⟨rfl, (), (congrArg rNN (num_bad _ hb)).trans rfl, trivial⟩
      · exact onT ⟨rfl, (), (congrArg rNN (num_bad _ hb)).trans rfl, trivial⟩
    · refine offE (c48 h48) (onF ?_)
      refine ⟨[], [], Nat, List.range' 8 57, fun i => [(0, rS (bs (c :: q))), (5, rI (capN (c :: q) i)), (6, rI (capC (c :: q) i)), (7, rI i)], fun _ => [], fun _ => S, fun i => i ≤ (c :: q).length ∧ ((c :: q).take i).all Txt.isDig = true, fun i => (c :: q).length - i, ?_⟩
      refine And.intro (Exists.intro 0 (And.intro (And.intro (And.intro ?_ rfl) (And.intro rfl (Store.le_refl _))) ⟨Nat.zero_le _, by simp⟩)) ?_
      · have e0 : rS _ = rS (bs (c :: q)) := congrArg rS hx
        repeat' first | exact trivial | exact rfl | exact e0 | refine And.intro ?_ ?_
      rintro i ⟨hi, hdig⟩
      have i0 : (0 : Int) ≤ ((i : Nat) : Int) := Int.natCast_nonneg _
      have hcap := cap_le (c :: q) i
      have hml : (c :: q).length ≤ 1000000 := by simp at hs ⊢; omega
      refine And.intro (fun h => ?_) (fun h => ?_)
      · have hil : i < (c :: q).length := by
          have h : ((i : Nat) : Int) < (((bs (c :: q)).size : Nat) : Int) := of_decide_eq_true h
          rw [bs_size] at h; omega
        obtain ⟨x, hx⟩ : ∃ x, (c :: q)[i]? = some x := ⟨_, List.getElem?_eq_getElem hil⟩
        have hgx : (bs (c :: q))[i]? = some x := by rw [bs_get]; exact hx
        have htk : (c :: q).take (i + 1) = (c :: q).take i ++ [x] := by rw [List.take_add_one, hx]; rfl
        have hx255 : x.toNat < 256 := x.toNat_lt
        refine ⟨i0, x, hgx, ?_⟩
        by_cases h1 : x.toNat < 48
        · refine onE (decide_eq_true (by omega)) (onT ⟨rfl, (), (congrArg rNN (num_bad (45 :: c :: q) (dig_bad hx (by simp [Txt.isDig]; omega) hm))).trans rfl, trivial⟩)
        refine offE (decide_eq_false (by omega)) ⟨i0, x, hgx, ?_⟩
        by_cases h2 : x.toNat > 57
        · exact onE (decide_eq_true (by omega)) ⟨rfl, (), (congrArg rNN (num_bad (45 :: c :: q) (dig_bad hx (by simp [Txt.isDig]; omega) hm))).trans rfl, trivial⟩
        refine offE (decide_eq_false (by omega)) ?_
        have hxd : Txt.isDig x = true := by simp [Txt.isDig]; omega
        have hall : ((c :: q).take (i + 1)).all Txt.isDig = true := by rw [htk, List.all_append, hdig]; simp [hxd]
        obtain ⟨s1, s2⟩ := cap_step hx
        have hmu : (c :: q).length - (i + 1) < (c :: q).length - i := by omega
        refine ⟨10 * capN (c :: q) i, wrap_i64 (by omega) (by omega), i0, x, hgx, (x.toNat : Int), wrap_i64 (by omega) (by omega), 10 * capN (c :: q) i + x.toNat, wrap_i64 (by omega) (by omega), 10 * capN (c :: q) i + x.toNat - 48, wrap_i64 (by omega) (by omega), ?_⟩
        by_cases h3 : 10 * capN (c :: q) i + x.toNat - 48 > 1099511627776
        · rw [if_pos (by omega)] at s1 s2
          refine onE (decide_eq_true h3) ⟨((i + 1 : Nat) : Int), wrap_i64 (by omega) (by omega), i + 1, ⟨⟨?_, rfl⟩, rfl, Store.le_refl _⟩, ⟨hil, hall⟩, hmu⟩
          have e1 : rI (capN (c :: q) (i + 1)) = _ := congrArg rI s1
          have e2 : rI (capC (c :: q) (i + 1)) = _ := congrArg rI s2
          repeat' first | exact trivial | exact rfl | exact e1.symm | exact e2.symm | refine And.intro ?_ ?_
        · rw [if_neg (by omega)] at s1 s2
          have s3 : capN (c :: q) (i + 1) = 10 * capN (c :: q) i + x.toNat - 48 := by rw [s1]; omega
          refine offE (decide_eq_false h3) ⟨((i + 1 : Nat) : Int), wrap_i64 (by omega) (by omega), i + 1, ⟨⟨?_, rfl⟩, rfl, Store.le_refl _⟩, ⟨hil, hall⟩, hmu⟩
          have e1 : rI (capN (c :: q) (i + 1)) = _ := congrArg rI s3
          have e2 : rI (capC (c :: q) (i + 1)) = _ := congrArg rI s2
          repeat' first | exact trivial | exact rfl | exact e1.symm | exact e2.symm | refine And.intro ?_ ?_
      · have hil : i = (c :: q).length := by
          have h : ¬ ((i : Nat) : Int) < (((bs (c :: q)).size : Nat) : Int) := of_decide_eq_false h
          rw [bs_size] at h; omega
        subst hil
        rw [List.take_length] at hdig
        have hcan := (by rw [Txt.canon, hm, hdig]; simp [h48] : Txt.canon (45 :: c :: q) = true)
        refine onT ⟨-(capN (c :: q) (c :: q).length), by rw [show (0 : Int) - capN (c :: q) (c :: q).length = -(capN (c :: q) (c :: q).length) by omega]; exact wrap_i64 (by omega) (by omega), rfl, (), (congrArg rNN (num_neg hn hm hcan)).trans rfl, trivial⟩
  · have hm := Txt.magOf_pos hn
    cases s with
    | nil =>
      refine onF ?_
      refine onF ?_
      refine onE (isE rfl) ?_
      refine onT ?_
      exact ⟨rfl, (), (congrArg rNN (num_bad [] rfl)).trans rfl, trivial⟩
    | cons c q =>
    have hc45 : c ≠ 45 := by simpa [Txt.isNeg] using hn
    have hsz : (bs (c :: q)).size = q.length + 1 := by rw [bs_size]; rfl
    have hx : bs (c :: q) = bs (c :: q) := rfl
    refine onE (decide_eq_true (by rw [hsz]; omega)) ⟨by decide, c, by rw [bs_get]; rfl, ?_⟩
    have h45 : ((c.toNat : Int) == 45) = false := by
      refine beq_eq_false_iff_ne.2 fun e => hc45 ?_
      have e : c.toNat = 45 := by have e : (c.toNat : Int) = 45 := e; omega
      exact UInt8.toNat_inj.1 e
    refine offE h45 ?_
    refine offE (isN (by simp)) ⟨by decide, c, by rw [bs_get]; rfl, ?_⟩
    by_cases h48 : c = 48
    · refine onE (by rw [h48]; rfl) ?_
      by_cases hl : q.length > 0
      · have hb : Txt.canon (c :: q) = false := by
          have : q ≠ [] := by intro e; rw [e] at hl; simp at hl
          rw [Txt.canon, hm, h48]; simp [this]
        exact onE (decide_eq_true (by rw [hsz]; omega)) (onT ⟨rfl, (), (congrArg rNN (num_bad _ hb)).trans rfl, trivial⟩)
      refine offE (decide_eq_false (by rw [hsz]; omega)) (offE h45 ?_)
      have hq : q = [] := by cases q with | nil => rfl | cons a b => simp at hl
      refine ⟨[], [], Nat, List.range' 8 57, fun i => [(0, rS (bs (c :: q))), (5, rI (capN (c :: q) i)), (6, rI (capC (c :: q) i)), (7, rI i)], fun _ => [], fun _ => S, fun i => i ≤ (c :: q).length ∧ ((c :: q).take i).all Txt.isDig = true, fun i => (c :: q).length - i, ?_⟩
      refine And.intro (Exists.intro 0 (And.intro (And.intro (And.intro ?_ rfl) (And.intro rfl (Store.le_refl _))) ⟨Nat.zero_le _, by simp⟩)) ?_
      · have e0 : rS _ = rS (bs (c :: q)) := congrArg rS hx
        repeat' first | exact trivial | exact rfl | exact e0 | refine And.intro ?_ ?_
      rintro i ⟨hi, hdig⟩
      have i0 : (0 : Int) ≤ ((i : Nat) : Int) := Int.natCast_nonneg _
      have hcap := cap_le (c :: q) i
      have hml : (c :: q).length ≤ 1000000 := by simp at hs ⊢; omega
      refine And.intro (fun h => ?_) (fun h => ?_)
      · have hil : i < (c :: q).length := by
          have h : ((i : Nat) : Int) < (((bs (c :: q)).size : Nat) : Int) := of_decide_eq_true h
          rw [bs_size] at h; omega
        obtain ⟨x, hx⟩ : ∃ x, (c :: q)[i]? = some x := ⟨_, List.getElem?_eq_getElem hil⟩
        have hgx : (bs (c :: q))[i]? = some x := by rw [bs_get]; exact hx
        have htk : (c :: q).take (i + 1) = (c :: q).take i ++ [x] := by rw [List.take_add_one, hx]; rfl
        have hx255 : x.toNat < 256 := x.toNat_lt
        refine ⟨i0, x, hgx, ?_⟩
        by_cases h1 : x.toNat < 48
        · refine onE (decide_eq_true (by omega)) (onT ⟨rfl, (), (congrArg rNN (num_bad (c :: q) (dig_bad hx (by simp [Txt.isDig]; omega) hm))).trans rfl, trivial⟩)
        refine offE (decide_eq_false (by omega)) ⟨i0, x, hgx, ?_⟩
        by_cases h2 : x.toNat > 57
        · exact onE (decide_eq_true (by omega)) ⟨rfl, (), (congrArg rNN (num_bad (c :: q) (dig_bad hx (by simp [Txt.isDig]; omega) hm))).trans rfl, trivial⟩
        refine offE (decide_eq_false (by omega)) ?_
        have hxd : Txt.isDig x = true := by simp [Txt.isDig]; omega
        have hall : ((c :: q).take (i + 1)).all Txt.isDig = true := by rw [htk, List.all_append, hdig]; simp [hxd]
        obtain ⟨s1, s2⟩ := cap_step hx
        have hmu : (c :: q).length - (i + 1) < (c :: q).length - i := by omega
        refine ⟨10 * capN (c :: q) i, wrap_i64 (by omega) (by omega), i0, x, hgx, (x.toNat : Int), wrap_i64 (by omega) (by omega), 10 * capN (c :: q) i + x.toNat, wrap_i64 (by omega) (by omega), 10 * capN (c :: q) i + x.toNat - 48, wrap_i64 (by omega) (by omega), ?_⟩
        by_cases h3 : 10 * capN (c :: q) i + x.toNat - 48 > 1099511627776
        · rw [if_pos (by omega)] at s1 s2
          refine onE (decide_eq_true h3) ⟨((i + 1 : Nat) : Int), wrap_i64 (by omega) (by omega), i + 1, ⟨⟨?_, rfl⟩, rfl, Store.le_refl _⟩, ⟨hil, hall⟩, hmu⟩
          have e1 : rI (capN (c :: q) (i + 1)) = _ := congrArg rI s1
          have e2 : rI (capC (c :: q) (i + 1)) = _ := congrArg rI s2
          repeat' first | exact trivial | exact rfl | exact e1.symm | exact e2.symm | refine And.intro ?_ ?_
        · rw [if_neg (by omega)] at s1 s2
          have s3 : capN (c :: q) (i + 1) = 10 * capN (c :: q) i + x.toNat - 48 := by rw [s1]; omega
          refine offE (decide_eq_false h3) ⟨((i + 1 : Nat) : Int), wrap_i64 (by omega) (by omega), i + 1, ⟨⟨?_, rfl⟩, rfl, Store.le_refl _⟩, ⟨hil, hall⟩, hmu⟩
          have e1 : rI (capN (c :: q) (i + 1)) = _ := congrArg rI s3
          have e2 : rI (capC (c :: q) (i + 1)) = _ := congrArg rI s2
          repeat' first | exact trivial | exact rfl | exact e1.symm | exact e2.symm | refine And.intro ?_ ?_
      · have hil : i = (c :: q).length := by
          have h : ¬ ((i : Nat) : Int) < (((bs (c :: q)).size : Nat) : Int) := of_decide_eq_false h
          rw [bs_size] at h; omega
        subst hil
        rw [List.take_length] at hdig
        have hcan := (by rw [hq, h48]; rfl : Txt.canon (c :: q) = true)
        refine offE h45 ⟨rfl, (), (congrArg rNN (num_pos hn hm hcan)).trans rfl, trivial⟩
    · refine offE (c48 h48) (onF ?_)
      refine ⟨[], [], Nat, List.range' 8 57, fun i => [(0, rS (bs (c :: q))), (5, rI (capN (c :: q) i)), (6, rI (capC (c :: q) i)), (7, rI i)], fun _ => [], fun _ => S, fun i => i ≤ (c :: q).length ∧ ((c :: q).take i).all Txt.isDig = true, fun i => (c :: q).length - i, ?_⟩
      refine And.intro (Exists.intro 0 (And.intro (And.intro (And.intro ?_ rfl) (And.intro rfl (Store.le_refl _))) ⟨Nat.zero_le _, by simp⟩)) ?_
      · have e0 : rS _ = rS (bs (c :: q)) := congrArg rS hx
        repeat' first | exact trivial | exact rfl | exact e0 | refine And.intro ?_ ?_
      rintro i ⟨hi, hdig⟩
      have i0 : (0 : Int) ≤ ((i : Nat) : Int) := Int.natCast_nonneg _
      have hcap := cap_le (c :: q) i
      have hml : (c :: q).length ≤ 1000000 := by simp at hs ⊢; omega
      refine And.intro (fun h => ?_) (fun h => ?_)
      · have hil : i < (c :: q).length := by
          have h : ((i : Nat) : Int) < (((bs (c :: q)).size : Nat) : Int) := of_decide_eq_true h
          rw [bs_size] at h; omega
        obtain ⟨x, hx⟩ : ∃ x, (c :: q)[i]? = some x := ⟨_, List.getElem?_eq_getElem hil⟩
        have hgx : (bs (c :: q))[i]? = some x := by rw [bs_get]; exact hx
        have htk : (c :: q).take (i + 1) = (c :: q).take i ++ [x] := by rw [List.take_add_one, hx]; rfl
        have hx255 : x.toNat < 256 := x.toNat_lt
        refine ⟨i0, x, hgx, ?_⟩
        by_cases h1 : x.toNat < 48
        · refine onE (decide_eq_true (by omega)) (onT ⟨rfl, (), (congrArg rNN (num_bad (c :: q) (dig_bad hx (by simp [Txt.isDig]; omega) hm))).trans rfl, trivial⟩)
        refine offE (decide_eq_false (by omega)) ⟨i0, x, hgx, ?_⟩
        by_cases h2 : x.toNat > 57
        · exact onE (decide_eq_true (by omega)) ⟨rfl, (), (congrArg rNN (num_bad (c :: q) (dig_bad hx (by simp [Txt.isDig]; omega) hm))).trans rfl, trivial⟩
        refine offE (decide_eq_false (by omega)) ?_
        have hxd : Txt.isDig x = true := by simp [Txt.isDig]; omega
        have hall : ((c :: q).take (i + 1)).all Txt.isDig = true := by rw [htk, List.all_append, hdig]; simp [hxd]
        obtain ⟨s1, s2⟩ := cap_step hx
        have hmu : (c :: q).length - (i + 1) < (c :: q).length - i := by omega
        refine ⟨10 * capN (c :: q) i, wrap_i64 (by omega) (by omega), i0, x, hgx, (x.toNat : Int), wrap_i64 (by omega) (by omega), 10 * capN (c :: q) i + x.toNat, wrap_i64 (by omega) (by omega), 10 * capN (c :: q) i + x.toNat - 48, wrap_i64 (by omega) (by omega), ?_⟩
        by_cases h3 : 10 * capN (c :: q) i + x.toNat - 48 > 1099511627776
        · rw [if_pos (by omega)] at s1 s2
          refine onE (decide_eq_true h3) ⟨((i + 1 : Nat) : Int), wrap_i64 (by omega) (by omega), i + 1, ⟨⟨?_, rfl⟩, rfl, Store.le_refl _⟩, ⟨hil, hall⟩, hmu⟩
          have e1 : rI (capN (c :: q) (i + 1)) = _ := congrArg rI s1
          have e2 : rI (capC (c :: q) (i + 1)) = _ := congrArg rI s2
          repeat' first | exact trivial | exact rfl | exact e1.symm | exact e2.symm | refine And.intro ?_ ?_
        · rw [if_neg (by omega)] at s1 s2
          have s3 : capN (c :: q) (i + 1) = 10 * capN (c :: q) i + x.toNat - 48 := by rw [s1]; omega
          refine offE (decide_eq_false h3) ⟨((i + 1 : Nat) : Int), wrap_i64 (by omega) (by omega), i + 1, ⟨⟨?_, rfl⟩, rfl, Store.le_refl _⟩, ⟨hil, hall⟩, hmu⟩
          have e1 : rI (capN (c :: q) (i + 1)) = _ := congrArg rI s3
          have e2 : rI (capC (c :: q) (i + 1)) = _ := congrArg rI s2
          repeat' first | exact trivial | exact rfl | exact e1.symm | exact e2.symm | refine And.intro ?_ ?_
      · have hil : i = (c :: q).length := by
          have h : ¬ ((i : Nat) : Int) < (((bs (c :: q)).size : Nat) : Int) := of_decide_eq_false h
          rw [bs_size] at h; omega
        subst hil
        rw [List.take_length] at hdig
        have hcan := (by rw [Txt.canon, hm, hdig]; simp [h48] : Txt.canon (c :: q) = true)
        refine offE h45 ⟨rfl, (), (congrArg rNN (num_pos hn hm hcan)).trans rfl, trivial⟩
end Go.Proofs.YtlecojgodkidkaaDoor
