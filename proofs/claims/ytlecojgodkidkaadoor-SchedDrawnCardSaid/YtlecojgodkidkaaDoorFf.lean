/- law07: Parse. -/
import Derived.Test.YtlecojgodkidkaaDoorFe
namespace Go.Proofs.YtlecojgodkidkaaDoor
open Go Go.Vc
set_option maxRecDepth 100000

def parseP (n : Nat) (acc : List Pk) : List (List UInt8) → List Pk × Int × Int
  | [] => ([], 0, 0)
  | [t] => if t = [] then (acc, 0, 0) else ([], n, 5)
  | l :: m :: ls => if (readR l).2 ≠ 0 then ([], n, (readR l).2) else if acc.length = 4096 then ([], n, 15) else parseP (n + 1) (acc ++ [(readR l).1]) (m :: ls)
/-- A text as a schedule: the picks, the line, the error. -/
def parseR (s : List UInt8) : List Pk × Int × Int := if s.length > 65536 then ([], 0, 7) else parseP 1 [] (Txt.pieces 10 s)
theorem parse_hit {n : Nat} {acc : List Pk} {l r : List UInt8} (h : (10 : UInt8) ∉ l) : parseP n acc (Txt.pieces 10 (l ++ 10 :: r)) =
    if (readR l).2 ≠ 0 then ([], (n : Int), (readR l).2) else if acc.length = 4096 then ([], (n : Int), 15) else parseP (n + 1) (acc ++ [(readR l).1]) (Txt.pieces 10 r) := by
  rw [Txt.pieces_hit r h]
  cases hp : Txt.pieces 10 r with
  | nil => exact absurd hp (Txt.pieces_ne 10 r)
  | cons m ls => rfl
theorem parse_miss {n : Nat} {acc : List Pk} {s : List UInt8} (h : (10 : UInt8) ∉ s) : parseP n acc (Txt.pieces 10 s) = if s = [] then (acc, 0, 0) else ([], (n : Int), 5) := by
  rw [Txt.pieces_miss h]; rfl
@[reducible] def rLE (x : Hd × Int × Int) : SV := .tup [(false, [.v (slV x.1)]), (false, [.v (.int .i64 x.2.1)]), (false, [.v (.int .i64 x.2.2)])]
/-- A list in the store. -/
def Lst (S : Store) (q : Hd) (l : List Pk) : Prop := q.2.1 = l.length ∧ q.2.1 ≤ q.2.2 ∧ RowRd S q.1 shP l
theorem Lst.le {S S' : Store} (h : S.le S') {q : Hd} {l : List Pk} (hl : Lst S q l) : Lst S' q l := ⟨hl.1, hl.2.1, hl.2.2.le h⟩
theorem lst_nil (S : Store) : Lst S (none, 0, 0) [] := ⟨rfl, Nat.le_refl _, .inl rfl, fun x hx => (by cases hx)⟩
@[reducible] def rCut (a b : List UInt8) (c : Bool) : SV := .tup [(false, [.v (.string (bs a))]), (false, [.v (.string (bs b))]), (false, [.v (.bool c)])]
theorem cut_miss_spec (S : Store) (hL : Lw S) (s : List UInt8) (hs : s.length ≤ 1000000000) (h : (10 : UInt8) ∉ s) :
    Pure Tryd.prog 30 S [.string (bs s), .string (bs [10])] (A := Unit) (fun _ => rCut s [] false) (fun _ _ => True) := by
  have := cut_spec S hL s hs
  rw [Txt.cut_miss h] at this
  exact this
theorem cut_hit_spec (S : Store) (hL : Lw S) (l r : List UInt8) (hs : (l ++ 10 :: r).length ≤ 1000000000) (h : (10 : UInt8) ∉ l) :
    Pure Tryd.prog 30 S [.string (bs (l ++ 10 :: r)), .string (bs [10])] (A := Unit) (fun _ => rCut l r true) (fun _ _ => True) := by
  have := cut_spec S hL (l ++ 10 :: r) hs
  rw [Txt.cut_hit h] at this
  exact this
set_option maxHeartbeats 1000000 in
theorem parse_spec (S : Store) (hL : Lw S) (s : List UInt8) (hs : s.length ≤ 1000000) :
    Pure Tryd.prog 21 S [.string (bs s)] rLE (fun S' q => Lst S' q.1 (parseR s).1 ∧ q.2 = (parseR s).2) := by
  refine pure_vc agrees Tryd.func21 rfl rfl (fun S S' q hle h => ⟨h.1.le hle, h.2⟩) ?_
  by_cases h0 : s.length > 65536
  · have hR : parseR s = ([], 0, 7) := if_pos h0
    refine onE (by rw [bs_size]; exact decide_eq_true (by omega)) ⟨rfl, ((none, 0, 0), 0, 7), rfl, ?_, ?_⟩
    · rw [hR]; exact lst_nil _
    · rw [hR]
  have hR : parseR s = parseP 1 [] (Txt.pieces 10 s) := if_neg h0
  rw [hR]
  refine offE (by rw [bs_size]; exact decide_eq_false (by omega)) ?_
  refine ⟨[], [(5, shP, 26)], Nat × List Pk × List UInt8, List.range' 7 5 ++ List.range' 12 38, fun a => [(0, rS (bs a.2.2)), (6, rI a.1)], fun a => [.row shP 26 a.2.1], fun _ => S,
    fun a => parseP a.1 a.2.1 (Txt.pieces 10 a.2.2) = parseP 1 [] (Txt.pieces 10 s) ∧ a.1 = a.2.1.length + 1 ∧ a.2.2.length ≤ s.length ∧ a.2.1.length ≤ 4096, fun a => a.2.2.length, ?_⟩
  refine And.intro (Exists.intro (1, [], s) (And.intro (And.intro (And.intro ?_ rfl) (And.intro rfl (Store.le_refl _))) ⟨rfl, rfl, Nat.le_refl _, Nat.zero_le _⟩)) ?_
  · repeat' first | exact trivial | exact rfl | refine And.intro ?_ ?_
  rintro ⟨n, acc, r⟩ ⟨hinv, hn, hlen, hacc⟩
  simp only at hinv hn hlen hacc
  by_cases hr : r = []
  · refine offE (ntT (isE hr)) ?_
    subst hr
    rw [Txt.pieces, parseP, if_pos rfl] at hinv
    intro p c S' hle hrd hpf
    refine ⟨rfl, ((p, acc.length, c), 0, 0), rfl, ?_, ?_⟩
    · rw [← hinv]
      refine ⟨rfl, ?_, hrd⟩
      rcases hpf with ⟨_, h1, h2⟩ | ⟨g, _, h⟩
      · show acc.length ≤ c
        rw [h1]; exact Nat.zero_le _
      · exact h
    · rw [← hinv]
  refine onE (ntF (isN hr)) ?_
  rcases Txt.split_at 10 r with hm | ⟨l, r, rfl, hm⟩
  · rw [parse_miss hm, if_neg hr] at hinv
    refine ⟨⟨_, rfl, rfl, rfl⟩, .inl ⟨_, _, _, cut_miss_spec S hL r (by omega) hm, fun S1 _ hS1 _ => ?_⟩⟩
    refine ⟨⟨_, rfl, rfl, rfl⟩, .inl ⟨_, _, _, read_spec S1 (hL.le hS1) r (by omega), fun S2 _ hS2 _ => ?_⟩⟩
    refine onT ⟨rfl, ((none, 0, 0), n, 5), rfl, ?_, ?_⟩
    · rw [← hinv]; exact lst_nil _
    · rw [← hinv]
  · rw [parse_hit hm] at hinv
    have hll : l.length + (r.length + 1) ≤ s.length := by simpa using hlen
    refine ⟨⟨_, rfl, rfl, rfl⟩, .inl ⟨_, _, _, cut_hit_spec S hL l r (by simp; omega) hm, fun S1 _ hS1 _ => ?_⟩⟩
    refine ⟨⟨_, rfl, rfl, rfl⟩, .inl ⟨_, _, _, read_spec S1 (hL.le hS1) l (by omega), fun S2 _ hS2 _ => ?_⟩⟩
    refine onF ?_
    by_cases he : (readR l).2 = 0
    · rw [if_neg (by rw [he]; simp)] at hinv
      refine offE (by rw [he]; rfl) ?_
      by_cases hf : acc.length = 4096
      · rw [if_pos hf] at hinv
        refine onE (by show ((acc.length : Int) == 4096) = true; rw [hf]; rfl) ⟨rfl, ((none, 0, 0), n, 15), rfl, ?_, ?_⟩
        · rw [← hinv]; exact lst_nil _
        · rw [← hinv]
      · rw [if_neg hf] at hinv
        refine offE (by show ((acc.length : Int) == 4096) = false; simp; omega) ?_
        refine ⟨[(readR l).1], ⟨rfl, rfl⟩, fun _ _ => ⟨trivial, trivial, trivial⟩, by show (acc.length + 1) * 24 ≤ 140737488355328; omega, ((n + 1 : Nat) : Int), wrap_i64 (by simp only; omega) (by simp only; omega), (n + 1, acc ++ [(readR l).1], r), ⟨⟨?_, rfl⟩, rfl, Store.le_trans hS1 hS2⟩, ⟨hinv, by simp; omega, by simp only; omega, by simp; omega⟩, by simp; omega⟩
        repeat' first | exact trivial | exact rfl | refine And.intro ?_ ?_
    · rw [if_pos he] at hinv
      refine onE (by simpa using he) ⟨rfl, ((none, 0, 0), n, (readR l).2), rfl, ?_, ?_⟩
      · rw [← hinv]; exact lst_nil _
      · rw [← hinv]
end Go.Proofs.YtlecojgodkidkaaDoor
