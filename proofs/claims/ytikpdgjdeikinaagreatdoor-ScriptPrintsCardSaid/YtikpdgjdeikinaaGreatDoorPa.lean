/- law63: scripts as plain data: names, words, numbers, lines. Conditions: none. -/
import Derived.Test.YtikpdgjdeikinaaGreatDoorLs
namespace Go.Proofs.YtikpdgjdeikinaaGreatDoor.Sc
open Go Go.Txt
set_option maxRecDepth 100000
abbrev Bs := List UInt8
/-- A command: line, Op, numbers, words. -/
abbrev Cmd := Int × Int × List Int × List Bs
def nameL : List Bs := [[111, 112, 101, 110], [108, 105, 110, 101], [99, 97, 108, 108], [115, 116, 101, 112], [115, 116, 111, 112], [99, 114, 97, 115, 104], [100, 114, 97, 119], [99, 97, 108, 109], [114, 101, 99, 111, 118, 101, 114], [97, 110, 115, 119, 101, 114], [97, 115, 107], [104, 105, 115, 116, 111, 114, 121], [119, 111, 114, 100, 115], [97, 117, 100, 105, 116], [106, 117, 100, 103, 101], [112, 108, 97, 110, 115]]
def nameOf (op : Int) : Bs := if op < 0 ∨ 15 < op then [] else nameL.getD op.toNat []
/-- The first place of a text in a list. -/
def place (w : Bs) : List Bs → Int → Int
  | [], _ => -1
  | x :: l, i => if x = w then i else place w l (i + 1)
def opOf (w : Bs) : Int := place w nameL 0
def bndL : List (List (Int × Int)) := [[(1, 8), (0, 128), (0, 1), (0, 1)], [], [(1, 8)], [(1, 8), (-2147483648, 2147483647), (1, 4096)], [(1, 8)], [(-2147483648, 2147483647)], [(0, 9223372036854775807), (1, 4096), (0, 64)], [(1, 4096)], [], [(1, 8)], [], [], [], [], [], []]
def bnds (op : Int) : List (Int × Int) := if op < 0 then [] else bndL.getD op.toNat []
def leastOf (op : Int) : Nat := (bnds op).length
def moreOf (op : Int) : Nat := if op = 2 ∨ op = 10 then 4 else 0
def kindOf (op : Int) : Nat := if op = 1 then 1 else if op = 2 ∨ op = 10 then 2 else 0
def rangeOk : List (Int × Int) → List Int → Bool
  | b :: bs, n :: ns => (decide (b.1 ≤ n) && decide (n ≤ b.2)) && rangeOk bs ns
  | _, _ => true
def plainB (b : UInt8) : Bool := decide (32 ≤ b.toNat) && decide (b.toNat ≤ 126)
def plainW (s : Bs) : Bool := decide (s.length ≤ 255) && s.all plainB
def nameB (b : UInt8) : Bool := (decide (97 ≤ b.toNat) && decide (b.toNat ≤ 122)) || (decide (65 ≤ b.toNat) && decide (b.toNat ≤ 90)) || (decide (48 ≤ b.toNat) && decide (b.toNat ≤ 57)) || decide (b.toNat = 95)
def namedW (s : Bs) : Bool := decide (1 ≤ s.length) && (decide (s.length ≤ 24) && s.all nameB)
def fitsW (k : Nat) (ws : List Bs) : Bool := match ws with
  | [] => k == 0
  | [w] => (k == 1 && plainW w) || (k == 2 && namedW w)
  | _ => false
def checkR (c : Cmd) : Int := if c.2.1 < 0 ∨ 15 < c.2.1 then 2 else
  if c.2.2.1.length < leastOf c.2.1 ∨ leastOf c.2.1 + moreOf c.2.1 < c.2.2.1.length ∨ fitsW (kindOf c.2.1) c.2.2.2 = false then 5 else
  if rangeOk (bnds c.2.1) c.2.2.1 = false then 3 else 0
def in64 (n : Int) : Bool := decide (-9223372036854775808 ≤ n) && decide (n ≤ 9223372036854775807)
def okW (w : Bs) : Bool := canon w && in64 (valOf w)
def c0 : Cmd := (0, 0, [], [])
def finR (op : Int) (l words : List Bs) : Cmd × Int := if l.all okW = false then (c0, 5) else if checkR (0, op, l.map valOf, words) ≠ 0 then (c0, checkR (0, op, l.map valOf, words)) else ((0, op, l.map valOf, words), 0)
def readW (w0 : Bs) (ws : List Bs) : Cmd × Int := if opOf w0 < 0 then (c0, 16) else
  if kindOf (opOf w0) = 1 then (if ws = [] ∨ plainW (joinC 32 ws) = false then (c0, 5) else ((0, opOf w0, [], [joinC 32 ws]), 0)) else
  if kindOf (opOf w0) = 2 then (if ws.length ≤ leastOf (opOf w0) then (c0, 5) else finR (opOf w0) (ws.take (leastOf (opOf w0)) ++ ws.drop (leastOf (opOf w0) + 1)) [ws.getD (leastOf (opOf w0)) []]) else finR (opOf w0) ws []
/-- A line that is not skipped: the command and the error. -/
def readR (s : Bs) : Cmd × Int := match pieces 32 s with
  | [] => (c0, 16)
  | w0 :: ws => readW w0 ws
def skipR (l : Bs) : Bool := match l with
  | [] => true
  | b :: _ => b == 59
def parseP (n : Nat) (acc : List Cmd) : List Bs → List Cmd × Int × Int
  | [] => (acc, 0, 0)
  | l :: ls => if skipR l = true then parseP (n + 1) acc ls else
    if (readR l).2 ≠ 0 then ([], (n : Int), (readR l).2) else
    if acc.length = 1000 then ([], (n : Int), 15) else parseP (n + 1) (acc ++ [((n : Int), (readR l).1.2)]) ls
/-- A text as commands: the commands, the line, the error. -/
def parseR (s : Bs) : List Cmd × Int × Int := if s.length > 65536 then ([], 0, 7) else parseP 1 [] (pieces 10 s)
def wordsOf (c : Cmd) : List Bs := nameOf c.2.1 :: ((c.2.2.1.take (leastOf c.2.1)).map Lib.itoa ++ c.2.2.2 ++ (c.2.2.1.drop (leastOf c.2.1)).map Lib.itoa)
def bare (c : Cmd) : Bs := joinC 32 (wordsOf c)
def lineR (c : Cmd) : Bs := bare c ++ [10]
def textOf (l : List Cmd) : Bs := l.flatMap lineR
def badOf : List Cmd → Int
  | [] => 0
  | c :: l => if checkR c ≠ 0 then checkR c else badOf l
def printR (l : List Cmd) : Bs × Int :=
  if l.length > 1000 then ([], 15) else if badOf l ≠ 0 then ([], badOf l) else if (textOf l).length > 65536 then ([], 7) else (textOf l, 0)

/-! Names and Ops. -/
theorem place_ge (w : Bs) : ∀ (l : List Bs) (i : Int), place w l i = -1 ∨ i ≤ place w l i ∧ place w l i < i + l.length
  | [], _ => .inl rfl
  | x :: l, i => by
    rw [place]
    by_cases h : x = w
    · rw [if_pos h]; right; simp only [List.length_cons]; omega
    · rw [if_neg h]
      rcases place_ge w l (i + 1) with h | h
      · exact .inl h
      · right; simp only [List.length_cons]; omega
theorem place_at (w : Bs) : ∀ (l : List Bs) (i : Int) (k : Nat), 0 ≤ i → place w l i = i + k → l[k]? = some w
  | [], i, k, h0, h => by rw [place] at h; omega
  | x :: l, i, k, h0, h => by
    rw [place] at h
    by_cases hx : x = w
    · rw [if_pos hx] at h
      have : k = 0 := by omega
      subst this; rw [hx]; rfl
    · rw [if_neg hx] at h
      cases k with
      | zero => rcases place_ge w l (i + 1) with q | q <;> omega
      | succ k => exact place_at w l (i + 1) k (by omega) (by omega)
theorem op_range (w : Bs) : opOf w = -1 ∨ 0 ≤ opOf w ∧ opOf w ≤ 15 := by
  rcases place_ge w nameL 0 with h | h
  · exact .inl h
  · right
    have : nameL.length = 16 := rfl
    unfold opOf; omega
theorem name_op {w : Bs} (h : 0 ≤ opOf w) : nameOf (opOf w) = w := by
  rcases op_range w with q | ⟨q, q2⟩
  · omega
  · have := place_at w nameL 0 (opOf w).toNat (Int.le_refl _) (by show opOf w = _; omega)
    unfold nameOf
    rw [if_neg (by omega), List.getD_eq_getElem?_getD, this]; rfl
theorem op_name : ∀ {op : Int}, 0 ≤ op → op ≤ 15 → opOf (nameOf op) = op := by
  intro op h0 h1
  have : op = 0 ∨ op = 1 ∨ op = 2 ∨ op = 3 ∨ op = 4 ∨ op = 5 ∨ op = 6 ∨ op = 7 ∨ op = 8 ∨ op = 9 ∨ op = 10 ∨ op = 11 ∨ op = 12 ∨ op = 13 ∨ op = 14 ∨ op = 15 := by omega
  rcases this with rfl | rfl | rfl | rfl | rfl | rfl | rfl | rfl | rfl | rfl | rfl | rfl | rfl | rfl | rfl | rfl <;> decide
def lowB (b : UInt8) : Bool := decide (97 ≤ b.toNat) && decide (b.toNat ≤ 122)
theorem name_low {op : Int} (h0 : 0 ≤ op) (h1 : op ≤ 15) : nameOf op ≠ [] ∧ (nameOf op).all lowB = true := by
  have : op = 0 ∨ op = 1 ∨ op = 2 ∨ op = 3 ∨ op = 4 ∨ op = 5 ∨ op = 6 ∨ op = 7 ∨ op = 8 ∨ op = 9 ∨ op = 10 ∨ op = 11 ∨ op = 12 ∨ op = 13 ∨ op = 14 ∨ op = 15 := by omega
  rcases this with rfl | rfl | rfl | rfl | rfl | rfl | rfl | rfl | rfl | rfl | rfl | rfl | rfl | rfl | rfl | rfl <;> decide
theorem name_len {op : Int} (h0 : 0 ≤ op) (h1 : op ≤ 15) : (nameOf op).length ≤ 7 := by
  have : op = 0 ∨ op = 1 ∨ op = 2 ∨ op = 3 ∨ op = 4 ∨ op = 5 ∨ op = 6 ∨ op = 7 ∨ op = 8 ∨ op = 9 ∨ op = 10 ∨ op = 11 ∨ op = 12 ∨ op = 13 ∨ op = 14 ∨ op = 15 := by omega
  rcases this with rfl | rfl | rfl | rfl | rfl | rfl | rfl | rfl | rfl | rfl | rfl | rfl | rfl | rfl | rfl | rfl <;> decide
theorem low_ne {b c : UInt8} (h : lowB b = true) (hc : c.toNat < 97) : b ≠ c := by
  intro e; subst e
  unfold lowB at h; simp at h; omega
theorem name_no {op : Int} (h0 : 0 ≤ op) (h1 : op ≤ 15) {c : UInt8} (hc : c.toNat < 97) : c ∉ nameOf op := fun h => low_ne (List.all_eq_true.1 (name_low h0 h1).2 _ h) hc rfl
theorem kind_cases (op : Int) : kindOf op = 0 ∨ kindOf op = 1 ∨ kindOf op = 2 := by
  unfold kindOf; repeat' split
  all_goals simp
theorem kind_one {op : Int} : kindOf op = 1 ↔ op = 1 := by
  unfold kindOf
  by_cases h : op = 1
  · simp [h]
  · rw [if_neg h]; split <;> simp [h]
theorem least_le (op : Int) : leastOf op ≤ 4 := by
  unfold leastOf bnds
  by_cases h : op < 0
  · rw [if_pos h]; decide
  rw [if_neg h]
  rw [List.getD_eq_getElem?_getD]
  cases hq : bndL[op.toNat]? with
  | none => decide
  | some b =>
    have := List.mem_of_getElem? hq
    have hall : ∀ b ∈ bndL, b.length ≤ 4 := by decide
    exact hall b this
end Go.Proofs.YtikpdgjdeikinaaGreatDoor.Sc
