/- law16, LeakMends: plain facts on words, masks. -/
import Derived.Test.YtmkbaeilfejbjaaDoorGb
namespace Go.Proofs.YtmkbaeilfejbjaaDoor
open Go Go.Vc

abbrev Wd := Int × Int × Int
/-! Plain words. -/
def setV (l : List Wd) (k : Nat) (v : Int) : List Wd := l.modify k fun x => (v, x.2)
/-- The words of the bits of the first b blocks. -/
def bitsW (b : Nat) (w : List Wd) (f : Nat → Int) : List Wd := if b = 0 then w else if b ≤ 32 then setV w 136 (f 0) else setV (setV w 136 (f 0)) 137 (f 1)
/-- The bits of a list of blocks. -/
def mask (u : List Int) (d : Nat) : Nat := u.foldl (fun m x => if x.toNat / 32 = d then m ||| 2 ^ (x.toNat % 32) else m) 0
def markW (b : Nat) (w : List Wd) (u : List Int) : List Wd := bitsW b w fun d => (mask u d : Int)

theorem setV_get (l : List Wd) (k : Nat) (v : Int) (i : Nat) : (setV l k v)[i]? = if k = i then l[i]?.map fun x => (v, x.2) else l[i]? := by
  unfold setV
  rw [List.getElem?_modify]
  split
  · rename_i h; cases l[i]? <;> simp
  · rename_i h; cases l[i]? <;> simp
theorem set_setV {l : List Wd} {k : Nat} {x : Wd} (h : l[k]? = some x) (v : Int) : l.set k (v, x.2) = setV l k v := by
  apply List.ext_getElem?
  intro i
  rw [setV_get, List.getElem?_set]
  split
  · rename_i e; subst e
    obtain ⟨hlt, he⟩ := List.getElem?_eq_some_iff.1 h
    rw [if_pos hlt, h]; rfl
  · rfl
theorem setV_length (l : List Wd) (k : Nat) (v : Int) : (setV l k v).length = l.length := by simp [setV]
theorem setV_setV (l : List Wd) (k : Nat) (v v' : Int) : setV (setV l k v) k v' = setV l k v' := by
  apply List.ext_getElem?
  intro i
  simp only [setV_get]
  split
  · cases l[i]? <;> rfl
  · rfl
theorem setV_comm (l : List Wd) {k k' : Nat} (hk : k ≠ k') (v v' : Int) : setV (setV l k v) k' v' = setV (setV l k' v') k v := by
  apply List.ext_getElem?
  intro i
  simp only [setV_get]
  by_cases h : k = i
  · subst h; rw [if_neg (fun e => hk e.symm), if_pos rfl, if_pos rfl, if_neg (fun e => hk e.symm)]
  · simp only [if_neg h]
theorem bitsW_length (b : Nat) (w : List Wd) (f : Nat → Int) : (bitsW b w f).length = w.length := by
  unfold bitsW
  split
  · rfl
  split <;> simp [setV_length]
theorem bitsW_congr {b : Nat} {w : List Wd} {f g : Nat → Int} (h0 : f 0 = g 0) (h1 : f 1 = g 1) : bitsW b w f = bitsW b w g := by unfold bitsW; rw [h0, h1]
/-- One block more, all bits zero. -/
theorem bitsW_succ (i : Nat) (hi : i < 64) (w : List Wd) : setV (bitsW i w fun _ => 0) (136 + i / 32) 0 = bitsW (i + 1) w fun _ => 0 := by
  unfold bitsW
  rw [if_neg (show ¬ i + 1 = 0 by omega)]
  by_cases h0 : i = 0
  · subst h0; rfl
  rw [if_neg h0]
  by_cases h1 : i < 32
  · rw [if_pos (by omega), if_pos (by omega), show 136 + i / 32 = 136 by omega, setV_setV]
  · by_cases h2 : i = 32
    · subst h2; rfl
    · rw [if_neg (by omega), if_neg (by omega), show 136 + i / 32 = 137 by omega, setV_setV]
/-- Another value of a word of bits. -/
theorem bitsW_set (b : Nat) (w : List Wd) (f : Nat → Int) (d : Nat) (hd : (d = 0 ∧ 0 < b) ∨ (d = 1 ∧ 32 < b)) (v : Int) : setV (bitsW b w f) (136 + d) v = bitsW b w fun e => if e = d then v else f e := by
  unfold bitsW
  rcases hd with ⟨rfl, h⟩ | ⟨rfl, h⟩
  · have h0 : ¬ b = 0 := by omega
    simp only [if_neg h0]
    split
    · exact setV_setV _ _ _ _
    · show setV (setV (setV w 136 (f 0)) 137 (f 1)) 136 v = setV (setV w 136 v) 137 (f 1)
      rw [setV_comm (setV w 136 (f 0)) (by decide : 137 ≠ 136), setV_setV]
  · have h0 : ¬ b = 0 := by omega
    have h1 : ¬ b ≤ 32 := by omega
    simp only [if_neg h0, if_neg h1]
    exact setV_setV _ _ _ _
theorem bitsW_get {b : Nat} {w : List Wd} {f : Nat → Int} {d : Nat} (hd : (d = 0 ∧ 0 < b) ∨ (d = 1 ∧ 32 < b)) {x : Wd} (h : (bitsW b w f)[136 + d]? = some x) : x.1 = f d := by
  unfold bitsW at h
  rcases hd with ⟨rfl, hb⟩ | ⟨rfl, hb⟩
  · rw [if_neg (by omega)] at h
    split at h
    · rw [setV_get, if_pos rfl] at h
      obtain ⟨y, -, rfl⟩ := Option.map_eq_some_iff.1 h
      rfl
    · rw [setV_get, if_neg (by decide), setV_get, if_pos rfl] at h
      obtain ⟨y, -, rfl⟩ := Option.map_eq_some_iff.1 h
      rfl
  · rw [if_neg (by omega), if_neg (by omega), setV_get, if_pos rfl] at h
    obtain ⟨y, -, rfl⟩ := Option.map_eq_some_iff.1 h
    rfl
/-- The marks of a list do not look at the old marks. -/
theorem markW_markW (b : Nat) (w : List Wd) (u u' : List Int) : markW b (markW b w u) u' = markW b w u' := by
  unfold markW bitsW
  split
  · rfl
  split
  · exact setV_setV _ _ _ _
  · rw [setV_comm (setV w 136 _) (by decide : 137 ≠ 136), setV_setV, setV_setV]
theorem markW_length (b : Nat) (w : List Wd) (u : List Int) : (markW b w u).length = w.length := bitsW_length _ _ _

theorem mask_append (u : List Int) (x : Int) (d : Nat) : mask (u ++ [x]) d = if x.toNat / 32 = d then mask u d ||| 2 ^ (x.toNat % 32) else mask u d := by
  simp [mask, List.foldl_append]
theorem mask_lt (u : List Int) (d : Nat) : mask u d < 2 ^ 32 := by
  suffices h : ∀ (u : List Int) (m : Nat), m < 2 ^ 32 → u.foldl (fun m x => if x.toNat / 32 = d then m ||| 2 ^ (x.toNat % 32) else m) m < 2 ^ 32 from h u 0 (by decide)
  intro u
  induction u with
  | nil => exact fun m hm => hm
  | cons x u ih =>
    intro m hm
    refine ih _ ?_
    dsimp only
    split
    · exact Nat.or_lt_two_pow hm (Nat.pow_lt_pow_right (by decide) (by omega))
    · exact hm
theorem mask_bit (u : List Int) (hu : ∀ x ∈ u, 0 ≤ x) (i : Nat) : (mask u (i / 32)).testBit (i % 32) = decide ((i : Int) ∈ u) := by
  suffices h : ∀ (u : List Int) (m : Nat), (∀ x ∈ u, 0 ≤ x) → (u.foldl (fun m x => if x.toNat / 32 = i / 32 then m ||| 2 ^ (x.toNat % 32) else m) m).testBit (i % 32) = (m.testBit (i % 32) || decide ((i : Int) ∈ u)) by
    have := h u 0 hu
    rw [Nat.zero_testBit, Bool.false_or] at this
    exact this
  intro u
  induction u with
  | nil => intro m _; simp
  | cons x u ih =>
    intro m hx
    have h0 : 0 ≤ x := hx x (by simp)
    rw [List.foldl_cons, ih _ fun y hy => hx y (by simp [hy])]
    split
    · rename_i e
      rw [Nat.testBit_or, Nat.testBit_two_pow]
      by_cases hi : x = i
      · subst hi; simp
      · have : ¬ x.toNat % 32 = i % 32 := by omega
        have hi' : ¬ (i : Int) = x := fun e => hi e.symm
        simp [this, hi']
    · rename_i e
      have hi : ¬ (i : Int) = x := by intro e'; subst e'; exact e (by simp)
      simp [hi]
theorem bitOr_nat (m j : Nat) (hm : m < 2 ^ 32) (hj : j < 2 ^ 32) : bitOr .i64 (m : Int) (j : Int) = ((m ||| j : Nat) : Int) := by
  unfold bitOr
  have h : (BitVec.ofInt IntKind.i64.bits (m : Int) ||| BitVec.ofInt IntKind.i64.bits (j : Int)).toNat = m ||| j := by
    rw [BitVec.toNat_or, BitVec.ofInt_natCast, BitVec.ofInt_natCast, BitVec.toNat_ofNat, BitVec.toNat_ofNat]
    rw [Nat.mod_eq_of_lt (show m < 2 ^ IntKind.i64.bits from Nat.lt_trans hm (by decide)), Nat.mod_eq_of_lt (show j < 2 ^ IntKind.i64.bits from Nat.lt_trans hj (by decide))]
  rw [h]
  have := Nat.or_lt_two_pow hm hj
  exact wrap_i64 (by omega) (by omega)
theorem bitAnd_nat (m i : Nat) (hm : m < 2 ^ 32) (hi : i < 32) : (bitAnd .i64 (m : Int) ((2 ^ i : Nat) : Int) != 0) = m.testBit i := by
  have hj : 2 ^ i < 2 ^ 32 := Nat.pow_lt_pow_right (by decide) hi
  have h : (BitVec.ofInt IntKind.i64.bits (m : Int) &&& BitVec.ofInt IntKind.i64.bits ((2 ^ i : Nat) : Int)).toNat = m &&& 2 ^ i := by
    rw [BitVec.toNat_and, BitVec.ofInt_natCast, BitVec.ofInt_natCast, BitVec.toNat_ofNat, BitVec.toNat_ofNat]
    rw [Nat.mod_eq_of_lt (show m < 2 ^ IntKind.i64.bits from Nat.lt_trans hm (by decide)), Nat.mod_eq_of_lt (show 2 ^ i < 2 ^ IntKind.i64.bits from Nat.lt_trans hj (by decide))]
  have hl : m &&& 2 ^ i < 2 ^ 32 := Nat.and_lt_two_pow _ hj
  unfold bitAnd
  rw [h, wrap_i64 (by omega) (by omega)]
  have hb : (m &&& 2 ^ i) = if m.testBit i = true then 2 ^ i else 0 := by
    apply Nat.eq_of_testBit_eq
    intro k
    rw [Nat.testBit_and, Nat.testBit_two_pow]
    by_cases hk : i = k
    · subst hk
      cases m.testBit i <;> simp
    · split <;> simp [hk]
  have hp : (2 ^ i : Nat) ≠ 0 := Nat.pos_iff_ne_zero.1 (Nat.two_pow_pos i)
  rw [hb]
  cases m.testBit i
  · rfl
  · rw [if_pos rfl]
    exact bne_iff_ne.2 fun e => hp (by exact_mod_cast e)
/-- One mark more. -/
theorem markW_step (b : Nat) (hb : b ≤ 64) (w : List Wd) (t : List Int) (n : Nat) (hn : n < b) {x : Wd} (h : (markW b w t)[136 + n / 32]? = some x) :
    (markW b w t).set (136 + n / 32) (bitOr .i64 x.1 ((2 ^ (n % 32) : Nat) : Int), x.2) = markW b w (t ++ [(n : Int)]) := by
  have hd : (n / 32 = 0 ∧ 0 < b) ∨ (n / 32 = 1 ∧ 32 < b) := by omega
  have hx : x.1 = (mask t (n / 32) : Int) := bitsW_get hd h
  rw [set_setV h, hx, bitOr_nat _ _ (mask_lt _ _) (Nat.pow_lt_pow_right (by decide) (by omega))]
  unfold markW
  rw [bitsW_set b w _ _ hd]
  refine bitsW_congr ?_ ?_
  · simp only [mask_append, Int.toNat_natCast]
    split
    · rename_i e; rw [← e, if_pos rfl]
    · rename_i e; rw [if_neg (fun e' => e e'.symm)]
  · simp only [mask_append, Int.toNat_natCast]
    split
    · rename_i e; rw [← e, if_pos rfl]
    · rename_i e; rw [if_neg (fun e' => e e'.symm)]
end Go.Proofs.YtmkbaeilfejbjaaDoor
