/- law58: the copy of a row of bools; the key of the memo. -/
import Derived.Test.YtpfghndflegbaaaDoorFn
namespace Go.Proofs.YtpfghndflegbaaaDoor
open Go Go.Vc Go.Sort
set_option maxRecDepth 100000

theorem clone_spec (S : Store) (pp : Hd) (pl : List Bool) (hpl : pl.length = pp.2.1) (hpr : RowRd S pp.1 .bool pl) (hne : pl ≠ []) (hfew : pl.length ≤ 1000000) :
    SpecN Tryd.prog 46 S [slV pp] (A := Unit) (fun _ => .c (.ref 0)) (fun _ => [.row .bool 4 pl]) (fun _ _ => True) := by
  obtain ⟨p, n, c⟩ := pp
  simp only at hpl hpr
  subst hpl
  obtain ⟨b, o, rfl, hrd⟩ := hpr.1.resolve_left hne
  refine specN_vc agrees Tryd.func46 rfl rfl (fun S S' q hle h => h) ?_
  refine onF ⟨pl, ?_, fun _ _ => trivial, ?_, ?_⟩
  · exact src_of rfl ⟨.inr ⟨b, o, rfl, hrd⟩, fun _ _ => trivial⟩
  · show (0 + pl.length) * 1 ≤ 140737488355328
    omega
  · exact ⟨[0], (), rfl, rfl, rfl, trivial⟩

/-- The key of the placed calls. -/
def keyL : Nat → List Bool → List UInt8
  | _, [] => []
  | i, b :: l => (if b = true then Lib.itoa (i : Int) ++ [32] else []) ++ keyL (i + 1) l
theorem keyL_snoc (b : Bool) : ∀ (l : List Bool) (i : Nat), keyL i (l ++ [b]) = keyL i l ++ (if b = true then Lib.itoa ((i + l.length : Nat) : Int) ++ [32] else [])
  | [], i => by simp [keyL]
  | x :: l, i => by
    rw [List.cons_append, keyL, keyL, keyL_snoc b l (i + 1)]
    have : i + 1 + l.length = i + (x :: l).length := by simp; omega
    rw [this, List.append_assoc]
theorem keyL_len : ∀ (l : List Bool) (i : Nat), i + l.length ≤ 1000000 → (keyL i l).length ≤ 21 * l.length
  | [], _, _ => Nat.le_refl _
  | b :: l, i, h => by
    simp only [List.length_cons] at h
    have ih := keyL_len l (i + 1) (by omega)
    have hi := Txt.itoa_len (n := (i : Int)) (by omega) (by omega)
    rw [keyL, List.length_append]
    simp only [List.length_cons]
    split
    · rw [List.length_append, List.length_singleton]; omega
    · simp; omega
theorem sep_inj {α : Type} {c : α} : ∀ {a b r r' : List α}, c ∉ a → c ∉ b → a ++ c :: r = b ++ c :: r' → a = b ∧ r = r'
  | [], [], _, _, _, _, h => by simp at h; exact ⟨rfl, h⟩
  | [], x :: b, _, _, _, hb, h => by
    simp at h
    exact absurd (by rw [h.1]; exact List.mem_cons_self) hb
  | x :: a, [], _, _, ha, _, h => by
    simp at h
    exact absurd (by rw [← h.1]; exact List.mem_cons_self) ha
  | x :: a, y :: b, r, r', ha, hb, h => by
    simp only [List.cons_append, List.cons.injEq] at h
    obtain ⟨h1, h2⟩ := sep_inj (fun q => ha (List.mem_cons_of_mem _ q)) (fun q => hb (List.mem_cons_of_mem _ q)) h.2
    exact ⟨by rw [h.1, h1], h2⟩
theorem keyL_head : ∀ (l : List Bool) (i : Nat), keyL i l = [] ∨ ∃ (j : Nat) (r : List UInt8), i ≤ j ∧ keyL i l = Lib.itoa (j : Int) ++ 32 :: r
  | [], _ => .inl rfl
  | b :: l, i => by
    cases b with
    | true => exact .inr ⟨i, keyL (i + 1) l, Nat.le_refl _, by simp [keyL]⟩
    | false =>
      rcases keyL_head l (i + 1) with h | ⟨j, r, hj, h⟩
      · exact .inl (by simpa [keyL] using h)
      · exact .inr ⟨j, r, by omega, by simpa [keyL] using h⟩
theorem itoa_inj {a b : Int} (h : Lib.itoa a = Lib.itoa b) : a = b := by rw [← Txt.val_itoa a, h, Txt.val_itoa]
theorem keyL_ne {l l' : List Bool} {i : Nat} : keyL i (true :: l) ≠ keyL i (false :: l') := by
  intro h
  have h : Lib.itoa (i : Int) ++ 32 :: keyL (i + 1) l = keyL (i + 1) l' := by simpa [keyL] using h
  rcases keyL_head l' (i + 1) with h1 | ⟨j, r, hj, h1⟩
  · rw [h1] at h; simp at h
  · rw [h1] at h
    have := itoa_inj (sep_inj Txt.itoa_sep.1 Txt.itoa_sep.1 h).1
    omega
theorem keyL_inj : ∀ {l l' : List Bool} {i : Nat}, l.length = l'.length → keyL i l = keyL i l' → l = l'
  | [], [], _, _, _ => rfl
  | [], _ :: _, _, h, _ => by simp at h
  | _ :: _, [], _, h, _ => by simp at h
  | b :: l, b' :: l', i, hl, h => by
    have hl' : l.length = l'.length := by simpa using hl
    cases b <;> cases b'
    · rw [keyL_inj hl' (by simpa [keyL] using h)]
    · exact absurd h.symm keyL_ne
    · exact absurd h keyL_ne
    · have h : Lib.itoa (i : Int) ++ 32 :: keyL (i + 1) l = Lib.itoa (i : Int) ++ 32 :: keyL (i + 1) l' := by simpa [keyL] using h
      rw [keyL_inj hl' (by simpa using h)]

/-- The memo's keys. -/
@[reducible] def shK : Shape := .st (.pair .str .str)
def keyOf (st : Int) (pl : List Bool) : ByteArray × ByteArray := (bs (Lib.itoa st), bs (keyL 0 pl))
abbrev Memos := List ((ByteArray × ByteArray) × Bool)
def Tried (n : Nat) (es : Memos) (z : Int × List Bool) : Prop := z.2.length = n ∧ (mget shK es (keyOf z.1 z.2)).getD false = true
theorem tried_nil (n : Nat) (z) : ¬ Tried n [] z := fun h => by cases h.2
theorem tried_add {n : Nat} {es : Memos} {st : Int} {pl : List Bool} (hl : pl.length = n) {z : Int × List Bool} (h : Tried n (mset shK es (keyOf st pl) true) z) : Tried n es z ∨ z = (st, pl) := by
  obtain ⟨h1, h2⟩ := h
  rw [mget_mset (k := shK) rfl] at h2
  by_cases e : shK.eq (keyOf z.1 z.2) (keyOf st pl) = true
  · right
    have e' := (key_eq (k := shK) rfl _ _).1 e
    have ea : bs (Lib.itoa z.1) = bs (Lib.itoa st) := congrArg Prod.fst e'
    have eb : bs (keyL 0 z.2) = bs (keyL 0 pl) := congrArg Prod.snd e'
    have a1 := itoa_inj (bs_inj.1 ea)
    have b1 := keyL_inj (h1.trans hl.symm) (bs_inj.1 eb)
    exact Prod.ext a1 b1
  · rw [if_neg e] at h2
    exact .inl ⟨h1, h2⟩
end Go.Proofs.YtpfghndflegbaaaDoor
