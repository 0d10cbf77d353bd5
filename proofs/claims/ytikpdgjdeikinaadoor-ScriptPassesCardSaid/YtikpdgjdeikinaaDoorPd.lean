/- law63: lines woven into a text, byte by byte. Conditions: none. -/
import Derived.Test.YtikpdgjdeikinaaDoorPc
namespace Go.Proofs.YtikpdgjdeikinaaDoor.Sc
open Go Go.Txt
set_option maxRecDepth 100000
def insT (sk : List Nat) (more : Bs) (j : Nat) : Bs := (ins sk more j).flatMap (· ++ [10])
/-- What is put ahead of a byte. -/
def wvB (sk : List Nat) (more : Bs) : Bool → Nat → Bs → Bs
  | _, _, [] => []
  | f, j, b :: r => (if f = true then insT sk more j else []) ++ b :: wvB sk more (b == 10) (if f = true then j + 1 else j) r
theorem pieces_flat {c : UInt8} : ∀ (l : List Bs) (r : Bs), (∀ w ∈ l, c ∉ w) → pieces c (l.flatMap (· ++ [c]) ++ r) = l ++ pieces c r
  | [], r, _ => rfl
  | w :: l, r, h => by
    have e : (w :: l).flatMap (· ++ [c]) ++ r = w ++ c :: (l.flatMap (· ++ [c]) ++ r) := by simp
    rw [e, pieces_hit _ (h w (by simp)), pieces_flat l r fun v hv => h v (by simp [hv])]; rfl
theorem ins_no {sk : List Nat} {more : Bs} (hm : (10 : UInt8) ∉ more) (j : Nat) : ∀ w ∈ ins sk more j, (10 : UInt8) ∉ w := by
  intro w hw
  unfold ins at hw
  split at hw
  · cases hw
  · split at hw
    · rw [List.mem_singleton.1 hw]; simp
    · rcases List.mem_cons.1 hw with rfl | hw
      · simp
      · rw [List.mem_singleton.1 hw]; exact hm
theorem ins_len (sk : List Nat) (more : Bs) (j : Nat) : (insT sk more j).length ≤ more.length + 2 := by
  unfold insT ins
  split
  · simp
  · split <;> simp
theorem ins_out {sk : List Nat} (more : Bs) {j : Nat} (h : sk.length ≤ j) : insT sk more j = [] := by
  unfold insT ins cnt
  rw [List.getD_eq_getElem?_getD, List.getElem?_eq_none h]; rfl
/-- The first piece of the woven text, in the middle of a line, and what follows. -/
theorem pieces_cons (c b : UInt8) (r : Bs) : pieces c (b :: r) = if b = c then [] :: pieces c r else match pieces c r with
    | [] => [[b]]
    | p :: ps => (b :: p) :: ps := by
  first
    | rfl
    | (rw [pieces]; try rfl)
theorem pieces_ne (c : UInt8) : ∀ s : Bs, pieces c s ≠ []
  | [] => by simp [pieces]
  | b :: r => by
    rw [pieces_cons]
    split
    · simp
    · split <;> simp
/-- Woven, behind the first piece. -/
def wovenT (sk : List Nat) (more : Bs) (j : Nat) : List Bs → List Bs
  | [] => []
  | [l] => [l]
  | l :: m :: ls => l :: woven sk more j (m :: ls)
theorem woven_cons (sk : List Nat) (more : Bs) (j : Nat) {L : List Bs} (h : L ≠ []) (hl : L ≠ [[]]) : woven sk more j L = ins sk more j ++ wovenT sk more (j + 1) L := by
  match L, h, hl with
  | [l], _, hl => rw [woven, if_neg (by intro e; exact hl (by rw [e]))]; rfl
  | l :: m :: ls, _, _ => rfl
theorem pieces_wv {sk : List Nat} {more : Bs} (hm : (10 : UInt8) ∉ more) : ∀ (s : Bs) (j : Nat),
    pieces 10 (wvB sk more true j s) = woven sk more j (pieces 10 s) ∧ pieces 10 (wvB sk more false j s) = wovenT sk more j (pieces 10 s)
  | [], j => ⟨rfl, rfl⟩
  | b :: r, j => by
    have key : ∀ k, pieces 10 (b :: wvB sk more (b == 10) k r) = wovenT sk more k (pieces 10 (b :: r)) := by
      intro k
      rw [pieces_cons, pieces_cons]
      by_cases hb : b = 10
      · rw [if_pos hb, if_pos hb, hb]
        show [] :: pieces 10 (wvB sk more true k r) = _
        rw [(pieces_wv hm r k).1]
        cases hp : pieces 10 r with
        | nil => exact absurd hp (pieces_ne 10 r)
        | cons p ps => rfl
      · rw [if_neg hb, if_neg hb]
        have e : (b == 10) = false := by simpa using hb
        rw [e, (pieces_wv hm r k).2]
        cases hp : pieces 10 r with
        | nil => exact absurd hp (pieces_ne 10 r)
        | cons p ps => cases ps <;> rfl
    constructor
    · show pieces 10 (insT sk more j ++ b :: wvB sk more (b == 10) (j + 1) r) = _
      unfold insT
      rw [pieces_flat _ _ (ins_no hm j), key, woven_cons _ _ _ (pieces_ne 10 _)]
      rw [pieces_cons]
      split
      · intro e
        have := List.cons.inj e
        exact pieces_ne 10 r this.2
      · split
        · simp
        · simp
    · exact key j
/-- Byte by byte, from the left. -/
def stW (sk : List Nat) (more : Bs) (x : Bs × Nat × Bool) (b : UInt8) : Bs × Nat × Bool := (x.1 ++ (if x.2.2 = true then insT sk more x.2.1 else []) ++ [b], if x.2.2 = true then x.2.1 + 1 else x.2.1, b == 10)
theorem fold_wv (sk : List Nat) (more : Bs) : ∀ (s : Bs) (x : Bs × Nat × Bool), (s.foldl (stW sk more) x).1 = x.1 ++ wvB sk more x.2.2 x.2.1 s
  | [], x => by simp [wvB]
  | b :: r, x => by
    rw [List.foldl_cons, fold_wv sk more r, stW, wvB]
    simp [List.append_assoc]
theorem fold_len (sk : List Nat) (more : Bs) : ∀ (s : Bs) (x : Bs × Nat × Bool), (s.foldl (stW sk more) x).2.1 ≤ x.2.1 + s.length ∧ (s.foldl (stW sk more) x).1.length + (more.length + 2) * (sk.length - (s.foldl (stW sk more) x).2.1) ≤ x.1.length + s.length + (more.length + 2) * (sk.length - x.2.1)
  | [], x => by simp
  | b :: r, x => by
    rw [List.foldl_cons]
    obtain ⟨h1, h2⟩ := fold_len sk more r (stW sk more x b)
    have ha : (stW sk more x b).2.1 ≤ x.2.1 + 1 := by unfold stW; dsimp only; split <;> omega
    have hb : (stW sk more x b).1.length + (more.length + 2) * (sk.length - (stW sk more x b).2.1) ≤ x.1.length + 1 + (more.length + 2) * (sk.length - x.2.1) := by
      unfold stW; dsimp only
      by_cases hf : x.2.2 = true
      · rw [if_pos hf, if_pos hf, List.length_append, List.length_append]
        show x.1.length + (insT sk more x.2.1).length + 1 + _ ≤ _
        by_cases hj : sk.length ≤ x.2.1
        · rw [ins_out more hj, Nat.sub_eq_zero_of_le hj, Nat.sub_eq_zero_of_le (by omega : sk.length ≤ x.2.1 + 1)]; simp
        · have := ins_len sk more x.2.1
          have e : sk.length - x.2.1 = (sk.length - (x.2.1 + 1)) + 1 := by omega
          rw [e, Nat.mul_add, Nat.mul_one]; omega
      · rw [if_neg hf, if_neg hf, List.length_append, List.length_append]
        show x.1.length + 0 + 1 + _ ≤ _
        omega
    constructor
    · rw [List.length_cons]; omega
    · rw [List.length_cons]; omega
/-- The text with the lines woven in parses as the text, at other lines. -/
theorem parse_wv {sk : List Nat} {more s : Bs} (hm : (10 : UInt8) ∉ more) (hk : skipR more = true) (h1 : s.length ≤ 65536) (h2 : (wvB sk more true 0 s).length ≤ 65536) :
    parseR (wvB sk more true 0 s) = ((parseR s).1.map (befC sk), bef sk (parseR s).2.1, (parseR s).2.2) := by
  unfold parseR
  rw [if_neg (by omega), if_neg (by omega), (pieces_wv hm s 0).1]
  exact parse_woven hk (pieces 10 s) 0 []
end Go.Proofs.YtikpdgjdeikinaaDoor.Sc
