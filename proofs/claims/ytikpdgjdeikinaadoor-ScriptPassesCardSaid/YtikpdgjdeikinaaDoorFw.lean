/- law63: the law Passes, joined. -/
import Derived.Test.YtikpdgjdeikinaaDoorFv
namespace Go.Proofs.YtikpdgjdeikinaaDoor
open Go Go.Vc Go.Sort
set_option maxRecDepth 100000
set_option maxHeartbeats 8000000

theorem one_byte (b : UInt8) : bytesOf [((b.toNat : Nat) : Int)] = bs [b] := by
  show (ByteArray.empty.push (UInt8.ofNat ((b.toNat : Nat) : Int).toNat)) = _
  rw [Int.toNat_natCast, UInt8.ofNat_toNat]; rfl
/-- The words without line feeds, behind a semicolon. -/
def moreR (w : Sc.Bs) : Sc.Bs := 59 :: w.filter (· != 10)
theorem more_no (w : Sc.Bs) : (10 : UInt8) ∉ moreR w := by
  unfold moreR
  intro h
  rcases List.mem_cons.1 h with h | h
  · cases h
  · have := (List.mem_filter.1 h).2
    simp at this
theorem more_len (w : Sc.Bs) : (moreR w).length ≤ w.length + 1 := by
  unfold moreR
  rw [List.length_cons]
  have := List.length_filter_le (· != (10 : UInt8)) w
  omega
/-- The first k lines of those that are put ahead. -/
def partT (more : Sc.Bs) : Nat → Sc.Bs
  | 0 => []
  | 1 => [10]
  | _ => [10] ++ (more ++ [10])
theorem ins_part (sk : List Nat) (more : Sc.Bs) (j : Nat) : Sc.insT sk more j = partT more (Sc.cnt sk j) := by
  have h3 : Sc.cnt sk j < 3 := Nat.mod_lt _ (by decide)
  unfold Sc.insT Sc.ins
  have : Sc.cnt sk j = 0 ∨ Sc.cnt sk j = 1 ∨ Sc.cnt sk j = 2 := by omega
  rcases this with h | h | h <;> rw [h] <;> simp [partT]
theorem rd_first {S : Store} {b o : Nat} {x : Value} {xs : List Value} (h : S.rd b o (x :: xs)) : S.rd b o [x] := fun j y hj => by
  rcases j with _ | j
  · exact h 0 y hj
  · exact absurd hj (by simp)
def or4_35x : Vc.Ord := (.op 0 (.op 1 (.op 5 (.op 6 (.op 7 (.op 2 (.op 3 (.op 4 (.op 8 (.op 9 (.op 10 (.op 11 (.op 12 .done)))))))))))))
theorem lines_of : ∀ (ls : List Sc.Bs) (n : Nat) (acc : List Sc.Cmd), (∀ c ∈ acc, 0 ≤ c.1 ∧ c.1 ≤ n) → (0 ≤ (Sc.parseP n acc ls).2.1 ∧ (Sc.parseP n acc ls).2.1 ≤ ((n + ls.length : Nat) : Int)) ∧ ∀ c ∈ (Sc.parseP n acc ls).1, 0 ≤ c.1 ∧ c.1 ≤ ((n + ls.length : Nat) : Int)
  | [], n, acc, h => ⟨⟨Int.le_refl _, Int.natCast_nonneg _⟩, h⟩
  | l :: ls, n, acc, h => by
    rw [Sc.parse_cons]
    have up : ∀ (acc' : List Sc.Cmd), (∀ c ∈ acc', 0 ≤ c.1 ∧ c.1 ≤ ((n + 1 : Nat) : Int)) → _ := fun acc' h' => lines_of ls (n + 1) acc' h'
    have e : n + 1 + ls.length = n + (l :: ls).length := by rw [List.length_cons]; omega
    rw [e] at up
    have h1 : ∀ c ∈ acc, 0 ≤ c.1 ∧ c.1 ≤ ((n + 1 : Nat) : Int) := fun c hc => by have := h c hc; omega
    by_cases hs : Sc.skipR l = true
    · rw [if_pos hs]; exact up acc h1
    rw [if_neg hs]
    have hle : ((n : Nat) : Int) ≤ ((n + (l :: ls).length : Nat) : Int) := by omega
    by_cases he : (Sc.readR l).2 ≠ 0
    · rw [if_pos he]; exact ⟨⟨Int.natCast_nonneg _, hle⟩, fun c hc => by cases hc⟩
    rw [if_neg he]
    by_cases hf : acc.length = 1000
    · rw [if_pos hf]; exact ⟨⟨Int.natCast_nonneg _, hle⟩, fun c hc => by cases hc⟩
    rw [if_neg hf]
    refine up _ fun c hc => ?_
    rcases List.mem_append.1 hc with hc | hc
    · exact h1 c hc
    · rw [List.mem_singleton.1 hc]
      show 0 ≤ ((n : Nat) : Int) ∧ ((n : Nat) : Int) ≤ _
      omega
theorem lens_ge : ∀ l : List Sc.Bs, l.length ≤ Sc.lensOf l
  | [] => Nat.le_refl _
  | w :: l => by
    have h := lens_ge l
    unfold Sc.lensOf at h ⊢
    rw [List.map_cons, List.sum_cons, List.length_cons]; omega
theorem parse_lines (s : Sc.Bs) (hs : s.length ≤ 2000) : (0 ≤ (Sc.parseR s).2.1 ∧ (Sc.parseR s).2.1 ≤ 2002) ∧ ∀ c ∈ (Sc.parseR s).1, 0 ≤ c.1 ∧ c.1 ≤ 2002 := by
  have h1 := lens_ge (Txt.pieces 10 s)
  rw [Sc.lens_pieces s.length s (Nat.le_refl _)] at h1
  have h2 := lines_of (Txt.pieces 10 s) 1 [] (fun c hc => by cases hc)
  unfold Sc.parseR
  rw [if_neg (by omega)]
  refine ⟨⟨h2.1.1, by have := h2.1.2; omega⟩, fun c hc => ⟨(h2.2 c hc).1, by have := (h2.2 c hc).2; omega⟩⟩
theorem law_passes (S : Store) (hL : Lw S) (s : Sc.Bs) (p : Option Addr) (nn c : Nat) (xs : List Int) (hn : nn = xs.length) (hr : RowRd S p (.int .u8) xs) (hx : ∀ x ∈ xs, 0 ≤ x ∧ x ≤ 255) (w : Sc.Bs) :
    Pure Tryd.prog 4 S [.string (bs s), .slice p nn c, .string (bs w)] rB (fun _ b => b = true) := by
  subst hn
  refine pure_vc agrees Tryd.func4 rfl rfl (fun S S' q hle h => h) ?_
  have hsz := bs_size s
  have hwz := bs_size w
  by_cases hs : s.length > 2000
  · exact onE (decide_eq_true (by show ((bs s).size : Int) > 2000; omega)) (onT (onT ⟨⟨_, rfl, rfl, rfl⟩, .inl ⟨_, _, _, awake_spec S hL, fun S1 _ hS1 _ => ⟨rfl, true, rfl, rfl⟩⟩⟩))
  refine offE (decide_eq_false (by show ¬ ((bs s).size : Int) > 2000; omega)) ?_
  by_cases hk : xs.length > 30
  · exact onE (decide_eq_true (by show ((xs.length : Nat) : Int) > 30; omega)) (onT ⟨⟨_, rfl, rfl, rfl⟩, .inl ⟨_, _, _, awake_spec S hL, fun S1 _ hS1 _ => ⟨rfl, true, rfl, rfl⟩⟩⟩)
  refine offE (decide_eq_false (by show ¬ ((xs.length : Nat) : Int) > 30; omega)) ?_
  by_cases hw : w.length > 100
  · exact onE (decide_eq_true (by show ((bs w).size : Int) > 100; omega)) ⟨⟨_, rfl, rfl, rfl⟩, .inl ⟨_, _, _, awake_spec S hL, fun S1 _ hS1 _ => ⟨rfl, true, rfl, rfl⟩⟩⟩
  refine offE (decide_eq_false (by show ¬ ((bs w).size : Int) > 100; omega)) fun g cw S1 hS1 hr1 hcw => ?_
  have hL1 := hL.le hS1
  have hrx := hr.le hS1
  refine ⟨[], [], Nat, [9] ++ List.range' 41 11, fun i => [(40, rI i), (7, rS (bs (moreR (w.take i))))], fun _ => [.box [.v (.slice p xs.length c)]], fun _ => S1, fun i => i ≤ w.length, fun i => w.length - i, ?_⟩
  refine And.intro (Exists.intro 0 (And.intro (And.intro (And.intro ?_ rfl) (And.intro rfl (Store.le_refl _))) (Nat.zero_le _))) ?_
  · repeat' first | exact trivial | exact rfl | refine And.intro ?_ ?_
  rintro i hi
  have hi : i ≤ w.length := hi
  have i0 : (0 : Int) ≤ ((i : Nat) : Int) := Int.natCast_nonneg _
  refine And.intro (fun h => ?_) (fun h => ?_)
  · have hil : i < w.length := by
      have : ((i : Nat) : Int) < (((bs w).size : Nat) : Int) := of_decide_eq_true h
      omega
    obtain ⟨b, hb⟩ : ∃ b, w[i]? = some b := ⟨_, List.getElem?_eq_getElem hil⟩
    obtain ⟨gb, go, hgp, hok, hrd⟩ := row_at hr1 (i := i) (x := ((b.toNat : Nat) : Int)) (by show (w.map fun b => ((b.toNat : Nat) : Int))[i]? = _; rw [List.getElem?_map, hb]; rfl)
    have hml := more_len (w.take i)
    rw [List.length_take] at hml
    have hmu : w.length - (i + 1) < w.length - i := by omega
    refine ⟨i0, by show ((i : Nat) : Int) < (((bs w).size : Nat) : Int); omega, gb, go, hgp, ((b.toNat : Nat) : Int), hok, hrd, ?_⟩
    by_cases hbt : b = 10
    · have e : moreR (w.take (i + 1)) = moreR (w.take i) := by
        rw [List.take_add_one, hb, hbt]; simp [moreR]
      refine offE (bne_eq_false_iff_eq.2 (show ((b.toNat : Nat) : Int) = 10 by rw [hbt]; rfl)) ⟨((i + 1 : Nat) : Int), wrap_i64 (by omega) (by omega), i + 1, ⟨⟨?_, rfl⟩, rfl, Store.le_refl _⟩, hil, hmu⟩
      have eS : rS (bs (moreR (w.take (i + 1)))) = rS (bs (moreR (w.take i))) := by rw [e]
      repeat' first | exact trivial | exact rfl | exact eS.symm | refine And.intro ?_ ?_
    · have hbn : ((b.toNat : Nat) : Int) ≠ 10 := fun h => hbt (UInt8.toNat.inj (by show b.toNat = 10; omega))
      have e : moreR (w.take (i + 1)) = moreR (w.take i) ++ [b] := by
        rw [List.take_add_one, hb]; simp [moreR, hbt]
      refine onE (bne_iff_ne.2 hbn) ⟨?_, ((i + 1 : Nat) : Int), wrap_i64 (by omega) (by omega), i + 1, ⟨⟨?_, rfl⟩, rfl, Store.le_refl _⟩, hil, hmu⟩
      · show (bs (moreR (w.take i))).size + (bytesOf [((b.toNat : Nat) : Int)]).size ≤ 9223372036854775807
        rw [one_byte, bs_size, bs_size]; show _ + 1 ≤ _; omega
      · have eS : rS (bs (moreR (w.take (i + 1)))) = rS (bs (moreR (w.take i)) ++ bytesOf [((b.toNat : Nat) : Int)]) := by rw [e, one_byte, bs_app]
        repeat' first | exact trivial | exact rfl | exact eS.symm | refine And.intro ?_ ?_
  · have hil : i = w.length := by
      have : ¬ ((i : Nat) : Int) < (((bs w).size : Nat) : Int) := of_decide_eq_false h
      omega
    subst hil
    clear h
    rw [List.take_length]
    have hmn := more_no w
    have hmk : Sc.skipR (moreR w) = true := rfl
    have hml := more_len w
    obtain ⟨sk, hsk⟩ : ∃ sk, xs.map Int.toNat = sk := ⟨_, rfl⟩
    have hsl : sk.length = xs.length := by rw [← hsk, List.length_map]
    generalize moreR w = more at *
    refine ⟨[], [], Nat × Sc.Bs × Nat × Bool, [13, 14] ++ List.range' 55 40, fun a => [(54, rI a.1), (10, rS (bs a.2.1)), (11, rI a.2.2.1), (12, .c (.v (.bool a.2.2.2)))], fun _ => [.box [.v (.slice p xs.length c)]], fun _ => S1, fun a => a.1 ≤ s.length ∧ (s.take a.1).foldl (Sc.stW sk more) ([], 0, true) = a.2, fun a => s.length - a.1, ?_⟩
    refine And.intro (Exists.intro (0, [], 0, true) (And.intro (And.intro (And.intro ?_ rfl) (And.intro rfl (Store.le_refl _))) ⟨Nat.zero_le _, rfl⟩)) ?_
    · repeat' first | exact trivial | exact rfl | refine And.intro ?_ ?_
    rintro ⟨i, T, j, f⟩ ⟨hi, hf⟩
    have hi : i ≤ s.length := hi
    have hf : (s.take i).foldl (Sc.stW sk more) ([], 0, true) = (T, j, f) := hf
    have i0 : (0 : Int) ≤ ((i : Nat) : Int) := Int.natCast_nonneg _
    have j0 : (0 : Int) ≤ ((j : Nat) : Int) := Int.natCast_nonneg _
    have hfl := Sc.fold_len sk more (s.take i) ([], 0, true)
    rw [hf, List.length_take] at hfl
    have hjl : j ≤ i := by have : j ≤ 0 + min i s.length := hfl.1; omega
    have hTl : T.length ≤ 6000 := by
      have h : T.length + (more.length + 2) * (sk.length - j) ≤ 0 + min i s.length + (more.length + 2) * (sk.length - 0) := hfl.2
      have h2 : (more.length + 2) * (sk.length - 0) ≤ 103 * 30 := Nat.mul_le_mul (by omega) (by omega)
      omega
    refine And.intro (fun h => ?_) (fun h => ?_)
    · have hil : i < s.length := by
        have : ((i : Nat) : Int) < (((bs s).size : Nat) : Int) := of_decide_eq_true h
        omega
      obtain ⟨b, hb⟩ : ∃ b, s[i]? = some b := ⟨_, List.getElem?_eq_getElem hil⟩
      have wi : IntKind.i64.wrap (((i : Nat) : Int) + 1) = ((i + 1 : Nat) : Int) := wrap_i64 (by omega) (by omega)
      have wj : IntKind.i64.wrap (((j : Nat) : Int) + 1) = ((j + 1 : Nat) : Int) := wrap_i64 (by omega) (by omega)
      have hmu : s.length - (i + 1) < s.length - i := by omega
      have eB : (((b.toNat : Nat) : Int) == 10) = (b == 10) := by
        by_cases hbt : b = 10
        · rw [hbt]; rfl
        · have hbn : ((b.toNat : Nat) : Int) ≠ 10 := fun h => hbt (UInt8.toNat.inj (by show b.toNat = 10; omega))
          rw [beq_eq_false_iff_ne.2 hbn, beq_eq_false_iff_ne.2 hbt]
      have hf' : (s.take (i + 1)).foldl (Sc.stW sk more) ([], 0, true) = Sc.stW sk more (T, j, f) b := by rw [List.take_add_one, hb, List.foldl_append, hf]; rfl
      cases f with
      | false =>
        have hf2 : (s.take (i + 1)).foldl (Sc.stW sk more) ([], 0, true) = (T ++ [b], j, b == 10) := by rw [hf']; simp [Sc.stW]
        refine onF ?_
        refine ⟨((i + 1 : Nat) : Int), wi, i0, by omega, by show i ≤ i + 1; omega, by show i + 1 ≤ (bs s).size; omega, ?_, i0, b, by rw [bs_get]; exact hb, ((i + 1 : Nat) : Int), wi, (i + 1, T ++ [b], j, b == 10), ⟨⟨?_, rfl⟩, rfl, Store.le_refl _⟩, ⟨hil, hf2⟩, hmu⟩
        · show (bs (T)).size + ((bs s).extract i (i + 1)).size ≤ 9223372036854775807
          rw [bs_ext s i hb, bs_size, bs_size]; show _ + 1 ≤ _; omega
        · have e1 : rS (bs (T ++ [b])) = rS (bs (T) ++ (bs s).extract i (i + 1)) := by rw [bs_ext s i hb, bs_app]
          have e2 : SV.c (.v (.bool (b == 10))) = SV.c (.v (.bool (((b.toNat : Nat) : Int) == 10))) := by rw [eB]
          repeat' first | exact trivial | exact rfl | exact e1.symm | exact e2.symm | refine And.intro ?_ ?_
      | true =>
        refine onT ?_
        by_cases hj : j < xs.length
        · refine onE (decide_eq_true (show ((j : Nat) : Int) < ((xs.length : Nat) : Int) by omega)) ?_
          obtain ⟨x, hxj⟩ : ∃ x, xs[j]? = some x := ⟨_, List.getElem?_eq_getElem hj⟩
          obtain ⟨gb, go, hp, hok, hrd⟩ := row_at hrx (i := j) (x := x) hxj
          have hxx := hx x (List.mem_of_getElem? hxj)
          have hc := cnt_at hxj hxx
          rw [hsk] at hc
          have hc3 : Sc.cnt sk j < 3 := Nat.mod_lt _ (by decide)
          have hmod : x.tmod 3 = ((Sc.cnt sk j : Nat) : Int) := (Int.tmod_eq_emod_of_nonneg hxx.1).trans hc
          have hpt := ins_part sk more j
          generalize hcc : Sc.cnt sk j = cc at *
          refine ⟨j0, by show ((j : Nat) : Int) < (xs.length : Int); omega, gb, go, hp, x, hok, hrd, by decide, ((cc : Nat) : Int), hmod, ((cc : Nat) : Int), wrap_i64 (by omega) (by omega), ?_⟩
          refine ⟨[], [], Nat, [14] ++ List.range' 69 12, fun k => [(68, rI k), (10, rS (bs (T ++ partT more k)))], fun _ => [.box [.v (.slice p xs.length c)]], fun _ => S1, fun k => k ≤ cc, fun k => cc - k, ?_⟩
          refine And.intro (Exists.intro 0 (And.intro (And.intro (And.intro ?_ rfl) (And.intro rfl (Store.le_refl _))) (Nat.zero_le _))) ?_
          · have e0 : rS (bs (T ++ partT more 0)) = rS (bs T) := by rw [partT, List.append_nil]
            repeat' first | exact trivial | exact rfl | exact e0.symm | refine And.intro ?_ ?_
          rintro k hk
          have hk : k ≤ cc := hk
          refine And.intro (fun h => ?_) (fun h => ?_)
          · have hkl : k < cc := by
              have : ((k : Nat) : Int) < ((cc : Nat) : Int) := of_decide_eq_true h
              omega
            have hsz2 : (bs more).size + (bs [10]).size ≤ 9223372036854775807 := by rw [bs_size, bs_size]; show _ + 1 ≤ _; omega
            have hkk : k = 0 ∨ k = 1 := by omega
            rcases hkk with rfl | rfl
            · refine ⟨hsz2, by decide, 0, rfl, by decide, by show (0 : Int) < 2; decide, bs [10], rfl, ?_, 1, by decide, 1, ⟨⟨?_, rfl⟩, rfl, Store.le_refl _⟩, hkl, by show cc - (0 + 1) < cc - 0; omega⟩
              · show (bs (T ++ partT more 0)).size + (bs [10]).size ≤ 9223372036854775807
                rw [bs_size, bs_size, partT, List.append_nil]; show _ + 1 ≤ _; omega
              · have e1 : rS (bs (T ++ partT more 1)) = rS (bs (T ++ partT more 0) ++ bs [10]) := by rw [partT, partT, List.append_nil, bs_app]
                repeat' first | exact trivial | exact rfl | exact e1.symm | refine And.intro ?_ ?_
            · refine ⟨hsz2, by decide, 1, rfl, by decide, by show (1 : Int) < 2; decide, bs more ++ bs [10], rfl, ?_, 2, by decide, 2, ⟨⟨?_, rfl⟩, rfl, Store.le_refl _⟩, hkl, by show cc - (1 + 1) < cc - 1; omega⟩
              · show (bs (T ++ partT more 1)).size + (bs more ++ bs [10]).size ≤ 9223372036854775807
                rw [bs_app, bs_size, bs_size, List.length_append, List.length_append]; show T.length + 1 + (more.length + 1) ≤ _; omega
              · have e1 : rS (bs (T ++ partT more 2)) = rS (bs (T ++ partT more 1) ++ (bs more ++ bs [10])) := by rw [bs_app, bs_app, List.append_assoc]; rfl
                repeat' first | exact trivial | exact rfl | exact e1.symm | refine And.intro ?_ ?_
          · have hkl : k = cc := by
              have : ¬ ((k : Nat) : Int) < ((cc : Nat) : Int) := of_decide_eq_false h
              omega
            subst hkl
            clear h
            have hf2 : (s.take (i + 1)).foldl (Sc.stW sk more) ([], 0, true) = ((T ++ partT more k) ++ [b], j + 1, b == 10) := by rw [hf', ← hpt]; rfl
            have hpl : (T ++ partT more k).length ≤ 6110 := by
              rw [List.length_append, ← hpt]
              have := Sc.ins_len sk more j
              omega
            refine ⟨((j + 1 : Nat) : Int), wj, ?_⟩
            refine ⟨((i + 1 : Nat) : Int), wi, i0, by omega, by show i ≤ i + 1; omega, by show i + 1 ≤ (bs s).size; omega, ?_, i0, b, by rw [bs_get]; exact hb, ((i + 1 : Nat) : Int), wi, (i + 1, (T ++ partT more k) ++ [b], j + 1, b == 10), ⟨⟨?_, rfl⟩, rfl, Store.le_refl _⟩, ⟨hil, hf2⟩, hmu⟩
            · show (bs ((T ++ partT more k))).size + ((bs s).extract i (i + 1)).size ≤ 9223372036854775807
              rw [bs_ext s i hb, bs_size, bs_size]; show _ + 1 ≤ _; omega
            · have e1 : rS (bs ((T ++ partT more k) ++ [b])) = rS (bs ((T ++ partT more k)) ++ (bs s).extract i (i + 1)) := by rw [bs_ext s i hb, bs_app]
              have e2 : SV.c (.v (.bool (b == 10))) = SV.c (.v (.bool (((b.toNat : Nat) : Int) == 10))) := by rw [eB]
              repeat' first | exact trivial | exact rfl | exact e1.symm | exact e2.symm | refine And.intro ?_ ?_
        · have hf2 : (s.take (i + 1)).foldl (Sc.stW sk more) ([], 0, true) = (T ++ [b], j + 1, b == 10) := by
            rw [hf']
            show (T ++ Sc.insT sk more j ++ [b], j + 1, b == 10) = _
            rw [Sc.ins_out more (by omega), List.append_nil]
          refine offE (decide_eq_false (show ¬ ((j : Nat) : Int) < ((xs.length : Nat) : Int) by omega)) ⟨((j + 1 : Nat) : Int), wj, ?_⟩
          refine ⟨((i + 1 : Nat) : Int), wi, i0, by omega, by show i ≤ i + 1; omega, by show i + 1 ≤ (bs s).size; omega, ?_, i0, b, by rw [bs_get]; exact hb, ((i + 1 : Nat) : Int), wi, (i + 1, T ++ [b], j + 1, b == 10), ⟨⟨?_, rfl⟩, rfl, Store.le_refl _⟩, ⟨hil, hf2⟩, hmu⟩
          · show (bs (T)).size + ((bs s).extract i (i + 1)).size ≤ 9223372036854775807
            rw [bs_ext s i hb, bs_size, bs_size]; show _ + 1 ≤ _; omega
          · have e1 : rS (bs (T ++ [b])) = rS (bs (T) ++ (bs s).extract i (i + 1)) := by rw [bs_ext s i hb, bs_app]
            have e2 : SV.c (.v (.bool (b == 10))) = SV.c (.v (.bool (((b.toNat : Nat) : Int) == 10))) := by rw [eB]
            repeat' first | exact trivial | exact rfl | exact e1.symm | exact e2.symm | refine And.intro ?_ ?_
    · have hil : i = s.length := by
        have : ¬ ((i : Nat) : Int) < (((bs s).size : Nat) : Int) := of_decide_eq_false h
        omega
      subst hil
      clear h
      rw [List.take_length] at hf
      have hT : T = Sc.wvB sk more true 0 s := by
        have := Sc.fold_wv sk more s ([], 0, true)
        rw [hf] at this
        simpa using this
      have hl3 : (Sc.parseR s).1.length ≤ 1000 ∧ ∀ c ∈ (Sc.parseR s).1, Sc.checkR c = 0 := by
        by_cases hq : (Sc.parseR s).2.2 = 0
        · obtain ⟨-, -, -, h4, h5, -, -⟩ := Sc.print_parse (s := s) (by omega) hq
          exact ⟨h4, h5⟩
        · rw [Sc.parseR_bad hq]; exact ⟨Nat.zero_le _, fun c hc => by cases hc⟩
      have hlines := parse_lines s (by omega)
      have hpw := Sc.parse_wv (sk := sk) (more := more) (s := s) hmn hmk (by omega) (by rw [← hT]; omega)
      rw [← hT] at hpw
      refine ⟨⟨_, rfl, rfl, rfl⟩, .inl ⟨_, _, _, parse_spec' S1 hL1 s (by omega), fun U1 y hU1 hy => ?_⟩⟩
      have hps := parse_spec' U1 (hL1.le hU1) T (by omega)
      rw [hpw] at hps
      refine ⟨⟨_, rfl, rfl, rfl⟩, .inl ⟨_, _, _, hps, fun U2 z hU2 hz => ?_⟩⟩
      obtain ⟨aq, an, ae⟩ := y
      obtain ⟨bq, bn, be⟩ := z
      obtain ⟨ha1, ha2⟩ := hy
      obtain ⟨hb1, hb2⟩ := hz
      have ea : an = (Sc.parseR s).2.1 := congrArg Prod.fst ha1
      have ea2 : ae = (Sc.parseR s).2.2 := congrArg Prod.snd ha1
      have eb : bn = Sc.bef sk (Sc.parseR s).2.1 := congrArg Prod.fst hb1
      have eb2 : be = (Sc.parseR s).2.2 := congrArg Prod.snd hb1
      have ha2 : LIs U1 aq (Sc.parseR s).1 := ha2
      have hb2 : LIs U2 bq ((Sc.parseR s).1.map (Sc.befC sk)) := hb2
      generalize Sc.parseR s = R at *
      have hlo := len_ok hl3.1 hl3.2
      refine offE (bne_eq_false_iff_eq.2 (ea2.trans eb2.symm)) ⟨⟨_, rfl, rfl, rfl⟩, .inl ⟨_, _, _, of_spec U2 aq _ (ha2.le hU2) (by omega), fun U3 q3 hU3 hq3 => ?_⟩⟩
      refine ⟨⟨_, rfl, rfl, rfl⟩, .inl ⟨_, _, _, of_spec U3 bq _ (hb2.le hU3) (by rw [List.length_map]; omega), fun U4 q4 hU4 hq4 => ?_⟩⟩
      refine ⟨⟨_, rfl, rfl, rfl⟩, .inl ⟨_, _, _, same_spec U4 q3 q4 _ _ (hq3.le hU4) hq4 (by omega) hlo false, fun U5 r hU5 hr5 => ?_⟩⟩
      have hr5 : r = true := hr5.2 ⟨(List.length_map _).symm, fun i c d hc hd => ⟨(fun q => by cases q), by
        rw [List.getElem?_map, hc] at hd
        obtain rfl := Option.some.inj hd
        rfl⟩⟩
      subst hr5
      refine onF ?_
      have hL5 := ((((hL1.le hU1).le hU2).le hU3).le hU4).le hU5
      have hr5 := ((((hrx.le hU1).le hU2).le hU3).le hU4).le hU5
      obtain ⟨N, hN⟩ := Int.eq_ofNat_of_zero_le hlines.1.1
      by_cases hae : ae = 0
      · refine offE (bne_eq_false_iff_eq.2 hae) ?_
        obtain ⟨K, hK1, hK2, -, hK4, hK5⟩ := (((ha2.le hU2).le hU3).le hU4).le hU5
        obtain ⟨M, hM1, hM2, -, hM4, hM5⟩ := ((hb2.le hU3).le hU4).le hU5
        obtain ⟨ap, al, ac⟩ := aq
        obtain ⟨bp, bl, bc⟩ := bq
        have hK2 : al = K.length := hK2
        have hM2 : bl = M.length := hM2
        subst hK2 hM2
        have hK4 : RowRd U5 ap shC (K.map (·.1)) := hK4
        have hM4 : RowRd U5 bp shC (M.map (·.1)) := hM4
        have hKM : M.length = K.length := by
          have h1 := congrArg List.length hM1
          have h2 := congrArg List.length hK1
          rw [List.length_map, List.length_map] at h1
          rw [List.length_map] at h2
          omega
        have hKl : K.length ≤ 1000 := by have := congrArg List.length hK1; rw [List.length_map] at this; omega
        refine ⟨[], [], Nat, [22] ++ List.range' 132 16, fun i => [(131, rI i)], fun _ => [.box [.v (.slice p xs.length c)]], fun _ => U5, fun i => i ≤ K.length, fun i => K.length - i, ?_⟩
        refine And.intro (Exists.intro 0 (And.intro (And.intro (And.intro ?_ rfl) (And.intro rfl (Store.le_refl _))) (Nat.zero_le _))) ?_
        · repeat' first | exact trivial | exact rfl | refine And.intro ?_ ?_
        rintro i hi
        have hi : i ≤ K.length := hi
        have i0 : (0 : Int) ≤ ((i : Nat) : Int) := Int.natCast_nonneg _
        refine And.intro (fun h => ?_) (fun h => ?_)
        · have hil : i < K.length := by
            have : ((i : Nat) : Int) < ((K.length : Nat) : Int) := of_decide_eq_true h
            omega
          obtain ⟨u, hu⟩ : ∃ u, K[i]? = some u := ⟨_, List.getElem?_eq_getElem hil⟩
          obtain ⟨v, hv⟩ : ∃ v, M[i]? = some v := ⟨_, List.getElem?_eq_getElem (by omega)⟩
          obtain ⟨b1, o1, hp1, hok1, hrd1⟩ := row_at hK4 (i := i) (x := u.1) (by rw [List.getElem?_map, hu]; rfl)
          obtain ⟨b2, o2, hp2, hok2, hrd2⟩ := row_at hM4 (i := i) (x := v.1) (by rw [List.getElem?_map, hv]; rfl)
          have huR : u.2 ∈ R.1 := by rw [← hK1]; exact List.mem_map.2 ⟨u, List.mem_of_getElem? hu, rfl⟩
          obtain ⟨N1, hN1⟩ := Int.eq_ofNat_of_zero_le (hlines.2 u.2 huR).1
          have hN2 := (hlines.2 u.2 huR).2
          have hul : u.1.1 = ((N1 : Nat) : Int) := ((hK5 u (List.mem_of_getElem? hu)).line).trans hN1
          have hvl : v.1.1 = ((Sc.before sk N1 : Nat) : Int) := by
            rw [(hM5 v (List.mem_of_getElem? hv)).line]
            have h1 : R.1[i]? = some u.2 := by rw [← hK1, List.getElem?_map, hu]; rfl
            have h2 : (R.1.map (Sc.befC sk))[i]? = some v.2 := by rw [← hM1, List.getElem?_map, hv]; rfl
            rw [List.getElem?_map, h1] at h2
            have h3 : Sc.befC sk u.2 = v.2 := Option.some.inj h2
            rw [← h3]
            show ((Sc.before sk u.2.1.toNat : Nat) : Int) = _
            rw [hN1]; rfl
          have hbs := before_spec U5 p xs.length c xs rfl hr5 hx (by omega) N1 (by omega)
          rw [hsk] at hbs
          obtain ⟨⟨ul, ur⟩, uc⟩ := u
          obtain ⟨⟨vl, vr⟩, vc⟩ := v
          obtain rfl : ul = ((N1 : Nat) : Int) := hul
          obtain rfl : vl = ((Sc.before sk N1 : Nat) : Int) := hvl
          refine ⟨or4_35x, [0], [], by kernel_rfl, ?_⟩
          refine abs_ord fun KK hKK => ?_
          refine ⟨i0, by show ((i : Nat) : Int) < ((M.length : Nat) : Int); omega, b2, o2, hp2, ((Sc.before sk N1 : Nat) : Int), trivial, ?rd2, i0, by show ((i : Nat) : Int) < ((K.length : Nat) : Int); omega, b1, o1, hp1, ((N1 : Nat) : Int), trivial, ?rd1, ⟨_, rfl, rfl, rfl⟩, .inr (.inl ⟨[0], _, _, _, _, rfl, hbs, fun U6 _ hU6 _ => ?fin⟩)⟩
          case rd2 => exact rd_first hrd2
          case rd1 => exact rd_first hrd1
          case fin =>
            subst hKK
            refine offE (bne_eq_false_iff_eq.2 rfl) ⟨((i + 1 : Nat) : Int), wrap_i64 (by omega) (by omega), i + 1, ⟨⟨?_, rfl⟩, rfl, hU6⟩, hil, by show K.length - (i + 1) < K.length - i; omega⟩
            repeat' first | exact trivial | exact rfl | refine And.intro ?_ ?_
        · exact ⟨⟨_, rfl, rfl, rfl⟩, .inl ⟨_, _, _, awake_spec U5 hL5, fun U7 _ hU7 _ => ⟨rfl, true, rfl, rfl⟩⟩⟩
      · obtain rfl : an = ((N : Nat) : Int) := ea.trans hN
        have hbn : bn = ((Sc.before sk N : Nat) : Int) := by rw [eb, hN]; rfl
        have hbs := before_spec U5 p xs.length c xs rfl hr5 hx (by omega) N (by omega)
        rw [hsk] at hbs
        refine onE (bne_iff_ne.2 hae) ⟨⟨_, rfl, rfl, rfl⟩, .inr (.inl ⟨[0], _, _, _, _, rfl, hbs, fun U6 _ hU6 _ => ?_⟩)⟩
        exact onE (beq_iff_eq.2 hbn) ⟨⟨_, rfl, rfl, rfl⟩, .inl ⟨_, _, _, awake_spec U6 (hL5.le hU6), fun U7 _ hU7 _ => ⟨rfl, true, rfl, rfl⟩⟩⟩
end Go.Proofs.YtikpdgjdeikinaaDoor
