/- law63: the program's find, Name, plain, named, fits, whole, check. -/
import Derived.Test.YtikpdgjdeikinaaGreatDoorFc
namespace Go.Proofs.YtikpdgjdeikinaaGreatDoor
open Go Go.Vc Go.Sort
set_option maxRecDepth 100000
set_option maxHeartbeats 4000000

theorem place_step {w : Sc.Bs} {i : Nat} (h : i < 16) : Sc.place w (Sc.nameL.drop i) i = if Sc.nameOf i = w then (i : Int) else Sc.place w (Sc.nameL.drop (i + 1)) ((i + 1 : Nat) : Int) := by
  have : i = 0 ∨ i = 1 ∨ i = 2 ∨ i = 3 ∨ i = 4 ∨ i = 5 ∨ i = 6 ∨ i = 7 ∨ i = 8 ∨ i = 9 ∨ i = 10 ∨ i = 11 ∨ i = 12 ∨ i = 13 ∨ i = 14 ∨ i = 15 := by omega
  rcases this with rfl | rfl | rfl | rfl | rfl | rfl | rfl | rfl | rfl | rfl | rfl | rfl | rfl | rfl | rfl | rfl <;> rfl
theorem place_end (w : Sc.Bs) : Sc.place w (Sc.nameL.drop 16) 16 = -1 := rfl
theorem find_spec (S : Store) (w : Sc.Bs) : Pure Tryz.prog 24 S [.string (bs w)] rI (fun _ n => n = Sc.opOf w) := by
  refine pure_vc agrees Tryz.func24 rfl rfl (fun S S' q hle h => h) ?_
  refine ⟨⟨_, rfl, rfl, rfl⟩, .inl ⟨_, _, _, shapes_spec S, fun S1 l hS1 hl => ?_⟩⟩
  refine ⟨[], [], Nat, [3, 4] ++ List.range' 7 9, fun i => [(6, rI i)], fun _ => [], fun _ => S1, fun i => i ≤ 16 ∧ Sc.place w (Sc.nameL.drop i) i = Sc.opOf w, fun i => 16 - i, ?_⟩
  refine And.intro (Exists.intro 0 (And.intro (And.intro (And.intro ?_ rfl) (And.intro rfl (Store.le_refl _))) ⟨Nat.zero_le _, rfl⟩)) ?_
  · repeat' first | exact trivial | exact rfl | refine And.intro ?_ ?_
  rintro i ⟨hi, hinv⟩
  have i0 : (0 : Int) ≤ ((i : Nat) : Int) := Int.natCast_nonneg _
  refine And.intro (fun h => ?_) (fun h => ?_)
  · have hil : i < 16 := by
      have : ((i : Nat) : Int) < 16 := of_decide_eq_true h
      omega
    obtain ⟨x, hx⟩ : ∃ x, (shpL l)[i]? = some x := ⟨_, List.getElem?_eq_getElem (show i < (shpL l).length from hil)⟩
    obtain ⟨e1, -, -, -⟩ := hl.2 i x hx
    refine ⟨i0, by show ((i : Nat) : Int) < ((16 : Nat) : Int); omega, x, cs_at (s := shS) (shpL l) i x hx, ?_⟩
    rw [place_step hil] at hinv
    by_cases he : Sc.nameOf i = w
    · rw [if_pos he] at hinv
      exact onE (by rw [e1]; exact isE he) ⟨rfl, (i : Int), rfl, hinv⟩
    · rw [if_neg he] at hinv
      refine offE (by rw [e1]; exact isN he) ⟨((i + 1 : Nat) : Int), wrap_i64 (by omega) (by omega), i + 1, ⟨⟨?_, rfl⟩, rfl, Store.le_refl _⟩, ⟨hil, hinv⟩, by show 16 - (i + 1) < 16 - i; omega⟩
      repeat' first | exact trivial | exact rfl | refine And.intro ?_ ?_
  · have hil : i = 16 := by
      have : ¬ ((i : Nat) : Int) < 16 := of_decide_eq_false h
      omega
    subst hil
    exact ⟨rfl, -1, rfl, hinv⟩
theorem sixteen {n : Int} (h0 : 0 ≤ n) (h1 : n < 16) : n = 0 ∨ n = 1 ∨ n = 2 ∨ n = 3 ∨ n = 4 ∨ n = 5 ∨ n = 6 ∨ n = 7 ∨ n = 8 ∨ n = 9 ∨ n = 10 ∨ n = 11 ∨ n = 12 ∨ n = 13 ∨ n = 14 ∨ n = 15 := by omega
theorem name_out {n : Int} (h : n < 0 ∨ 16 ≤ n) : Sc.nameOf n = [] := by unfold Sc.nameOf; rw [if_pos (by omega)]
theorem refName_spec (S : Store) (n : Int) : Pure Tryz.prog 12 S [.int .i64 n] (A := Unit) (fun _ => rS (bs (Sc.nameOf n))) (fun _ _ => True) := by
  refine pure_vc agrees Tryz.func12 rfl rfl (fun S S' q hle h => h) ?_
  by_cases h0 : n < 0
  · exact onE (decide_eq_true h0) (onT ⟨rfl, (), by rw [name_out (.inl h0)]; rfl, trivial⟩)
  refine offE (decide_eq_false h0) ?_
  by_cases h1 : n ≥ 16
  · exact onE (decide_eq_true h1) ⟨rfl, (), by rw [name_out (.inr h1)]; rfl, trivial⟩
  refine offE (decide_eq_false h1) ⟨by omega, by show n < ((16 : Nat) : Int); omega, ?_⟩
  rcases sixteen (by omega) (show n < 16 by omega) with rfl | rfl | rfl | rfl | rfl | rfl | rfl | rfl | rfl | rfl | rfl | rfl | rfl | rfl | rfl | rfl <;> exact ⟨_, rfl, rfl, (), rfl, trivial⟩

/-! Texts. -/
def badRune (x : Nat) : Bool := decide (x < 32) || decide (126 < x)
theorem rune_spec (S : Store) (x : Nat) : Pure Tryz.prog 49 S [.int .i32 x] (A := Unit) (fun _ => rB (badRune x)) (fun _ _ => True) := by
  refine pure_vc agrees Tryz.func49 rfl rfl (fun S S' q hle h => h) ?_
  by_cases h1 : (x : Int) < 32
  · refine onE (decide_eq_true h1) ⟨rfl, (), ?_, trivial⟩
    unfold badRune; rw [decide_eq_true (show x < 32 by omega)]; rfl
  · refine offE (decide_eq_false h1) ⟨rfl, (), ?_, trivial⟩
    unfold badRune; rw [decide_eq_false (show ¬ x < 32 by omega), Bool.false_or]
    have : decide (126 < x) = decide ((x : Int) > 126) := decide_eq_decide.2 (by omega)
    rw [this]; rfl
theorem idx_plain (s : ByteArray) : ∀ (f pos : Nat), s.size ≤ pos + f → (decide (0 ≤ Lib.idxFuncFrom badRune true s f pos) = !((s.data.toList.drop pos).all Sc.plainB))
  | 0, pos, h => by
    rw [List.drop_eq_nil_of_le (by simpa using h)]
    rfl
  | f + 1, pos, h => by
    rw [Lib.idxFuncFrom]
    by_cases hp : pos < s.size
    · rw [if_pos hp]
      have hpl : pos < s.data.toList.length := by simpa using hp
      have hg : s.data.toList[pos] = s[pos]'hp := by rfl
      rw [List.drop_eq_getElem_cons hpl, List.all_cons, hg]
      by_cases h1 : (s[pos]'hp).toNat < 128
      · have hd := decode_ascii s pos hp h1
        rw [hd]
        have hb : badRune (s[pos]'hp).toNat = !Sc.plainB (s[pos]'hp) := by
          unfold badRune Sc.plainB
          by_cases a : (s[pos]'hp).toNat < 32
          · rw [decide_eq_true a, decide_eq_false (show ¬ 32 ≤ (s[pos]'hp).toNat by omega)]; rfl
          · rw [decide_eq_false a, decide_eq_true (show 32 ≤ (s[pos]'hp).toNat by omega), Bool.false_or, Bool.true_and]
            by_cases b : (s[pos]'hp).toNat ≤ 126
            · rw [decide_eq_true b, decide_eq_false (by omega)]; rfl
            · rw [decide_eq_false b, decide_eq_true (by omega)]; rfl
        rw [hb]
        cases hq : Sc.plainB (s[pos]'hp) with
        | true =>
          rw [if_neg (by simp), Bool.true_and]
          exact idx_plain s f (pos + 1) (by omega)
        | false =>
          rw [if_pos (show (!false) = true from rfl), Bool.false_and]
          exact decide_eq_true (Int.natCast_nonneg _)
      · have hd := (decode_high s pos hp (by omega)).1
        have hb : badRune (Utf8.decode s pos).1 = true := by unfold badRune; rw [decide_eq_true (show 126 < (Utf8.decode s pos).1 by omega), Bool.or_true]
        have hq : Sc.plainB (s[pos]'hp) = false := by unfold Sc.plainB; rw [decide_eq_false (show ¬ (s[pos]'hp).toNat ≤ 126 by omega), Bool.and_false]
        rw [if_pos hb, hq, Bool.false_and]
        exact decide_eq_true (Int.natCast_nonneg _)
    · rw [if_neg hp, List.drop_eq_nil_of_le (by simpa using hp)]
      rfl
theorem below_old {w w' : World} (h : Old w w') : Go.RowKit.Below w.heap.size w w' := ⟨h.os, h.tape, h.output, h.size, h.block⟩
theorem contains_spec (S : Store) (s : List UInt8) : Pure Tryz.prog 48 S [.string (bs s), .func (.func 49) #[] #[]] (A := Unit) (fun _ => rB (!(s.all Sc.plainB))) (fun _ _ => True) := by
  refine pure_old fun w hw => ?_
  refine (Tryz.strings_ContainsFunc_grows 49 #[] (Go.Proofs.enters_of Tryz.func49 rfl rfl) badRune (bs s) w (fun W x hx hb => ?_)).mono ?_
  · refine (rune_spec (Store.of W) x W (Store.le_refl _)).mono ?_
    rintro e w' ⟨v, _, S', rfl, hv, -, -, hold, -, -⟩
    exact ⟨by rw [hv.1], below_old hold⟩
  · rintro e w' ⟨rfl, hb⟩
    refine ⟨_, (), rfl, ?_, old_below hb, trivial⟩
    have : decide (0 ≤ Lib.idxFunc badRune true (bs s)) = !(s.all Sc.plainB) := idx_plain (bs s) (bs s).size 0 (by omega)
    rw [this]
    exact ⟨rfl, rfl⟩
theorem plain_spec (S : Store) (s : List UInt8) : Pure Tryz.prog 39 S [.string (bs s)] (A := Unit) (fun _ => rB (Sc.plainW s)) (fun _ _ => True) := by
  refine pure_vc agrees Tryz.func39 rfl rfl (fun S S' q hle h => h) ?_
  have hsz := bs_size s
  by_cases h1 : s.length ≤ 255
  · refine onE (decide_eq_true (by show ((bs s).size : Int) ≤ 255; omega)) ⟨⟨_, rfl, rfl, rfl⟩, .inl ⟨_, _, _, contains_spec S s, fun S1 _ hS1 _ => ⟨rfl, (), ?_, trivial⟩⟩⟩
    unfold Sc.plainW
    rw [decide_eq_true h1, Bool.true_and]
    show rB (s.all Sc.plainB) = rB (!!(s.all Sc.plainB))
    rw [Bool.not_not]
  · refine offE (decide_eq_false (by show ¬ ((bs s).size : Int) ≤ 255; omega)) ⟨rfl, (), ?_, trivial⟩
    unfold Sc.plainW
    rw [decide_eq_false h1]; rfl
theorem named_spec (S : Store) (s : List UInt8) (hs : s.length ≤ 1000000000) : Pure Tryz.prog 43 S [.string (bs s)] (A := Unit) (fun _ => rB (Sc.namedW s)) (fun _ _ => True) := by
  refine pure_vc agrees Tryz.func43 rfl rfl (fun S S' q hle h => h) ?_
  have hsz := bs_size s
  by_cases h0 : s = []
  · refine offE (ntT (isE h0)) (offE rfl ⟨rfl, (), ?_, trivial⟩)
    rw [h0]; rfl
  have hl : 1 ≤ s.length := by cases s with | nil => exact absurd rfl h0 | cons _ _ => simp
  refine onE (ntF (isN h0)) ?_
  unfold Sc.namedW
  rw [decide_eq_true hl, Bool.true_and]
  by_cases h1 : s.length ≤ 24
  · refine onE (decide_eq_true (by show ((bs s).size : Int) ≤ 24; omega)) ⟨⟨_, rfl, rfl, rfl⟩, .inl ⟨_, _, _, trim_spec S s hs, fun S1 _ hS1 _ => ⟨rfl, (), ?_, trivial⟩⟩⟩
    rw [decide_eq_true h1, Bool.true_and]
    show rB (s.all Sc.nameB) = rB ((bs (Lib.trimS s alnum)).toList == (bs []).toList)
    rw [eqv]
    congr 3
    rw [eq_comm]
    have := Txt.trim_empty (l := s) (cs := alnum)
    cases hq : s.all Sc.nameB with
    | true => exact decide_eq_true (this.2 fun x hx => by rw [alnum_has]; exact List.all_eq_true.1 hq x hx)
    | false =>
      refine decide_eq_false fun h => ?_
      have h2 := this.1 h
      have : s.all Sc.nameB = true := List.all_eq_true.2 fun x hx => by rw [← alnum_has]; exact h2 x hx
      rw [this] at hq; cases hq
  · refine offE (decide_eq_false (by show ¬ ((bs s).size : Int) ≤ 24; omega)) ⟨rfl, (), ?_, trivial⟩
    rw [decide_eq_false h1]; rfl
end Go.Proofs.YtikpdgjdeikinaaGreatDoor
