/- law58: the chapter's example: plain. -/
import Derived.Test.YtpfghndflegbaaaDoorFr
namespace Go.Proofs.YtpfghndflegbaaaDoor
open Go Go.Vc Go.Sort
set_option maxRecDepth 100000
set_option maxHeartbeats 4000000

theorem do_write (n : Int) (xs : List Int) : doE n wWrite xs = (xs.getD 0 0, (0, 0)) := if_pos rfl
theorem do_read (n : Int) (xs : List Int) : doE n wRead xs = (n, (0, n)) := by
  unfold doE
  rw [if_neg (by unfold wRead wWrite; rw [bs_inj]; decide), if_pos rfl]

section plain
variable {f : Int → Cd → Int × Ad} {cw cr : Cd}
theorem ex_a (h1 : f 0 cw = (5, (0, 0))) (h2 : f 5 cr = (5, (0, 5))) : Jd.ansS f [⟨0, 3, cw, some (0, 0)⟩, ⟨1, 2, cr, some (0, 5)⟩] 0 [false, false] = some [0, 1] := by
  have e0 : Jd.wholeS (γ := Cd) (α := Ad) [⟨0, 3, cw, some (0, 0)⟩, ⟨1, 2, cr, some (0, 5)⟩] [false, false] = false := rfl
  have m0 : Jd.mayS (γ := Cd) (α := Ad) [⟨0, 3, cw, some (0, 0)⟩, ⟨1, 2, cr, some (0, 5)⟩] [false, false] 0 = true := rfl
  have e1 : Jd.wholeS (γ := Cd) (α := Ad) [⟨0, 3, cw, some (0, 0)⟩, ⟨1, 2, cr, some (0, 5)⟩] [true, false] = false := rfl
  have m1 : Jd.mayS (γ := Cd) (α := Ad) [⟨0, 3, cw, some (0, 0)⟩, ⟨1, 2, cr, some (0, 5)⟩] [true, false] 0 = false := rfl
  have m2 : Jd.mayS (γ := Cd) (α := Ad) [⟨0, 3, cw, some (0, 0)⟩, ⟨1, 2, cr, some (0, 5)⟩] [true, false] 1 = true := rfl
  have e2 : Jd.wholeS (γ := Cd) (α := Ad) [⟨0, 3, cw, some (0, 0)⟩, ⟨1, 2, cr, some (0, 5)⟩] [true, true] = true := rfl
  have s2 : Jd.ansS f [⟨0, 3, cw, some (0, 0)⟩, ⟨1, 2, cr, some (0, 5)⟩] 5 [true, true] = some [] := by rw [Jd.ans_step, if_pos e2]
  have s1 : Jd.ansS f [⟨0, 3, cw, some (0, 0)⟩, ⟨1, 2, cr, some (0, 5)⟩] 5 [true, false] = some [1] := by
    rw [Jd.ans_step, if_neg (by rw [e1]; decide)]
    refine find_at (n := 2) (j := 1) (by decide) (fun k hk => ?_) ?_
    · obtain rfl : k = 0 := by omega
      show (if _ ∧ _ then _ else none) = none
      rw [if_neg (fun q => by rw [m1] at q; cases q.1)]
    · show (if _ ∧ Jd.fitS ⟨1, 2, cr, some (0, 5)⟩ (f 5 cr).2 = true then (Jd.ansS f _ (f 5 cr).1 [true, true]).map (1 :: ·) else none) = _
      rw [h2, s2, if_pos ⟨m2, rfl⟩]; rfl
  rw [Jd.ans_step, if_neg (by rw [e0]; decide)]
  refine find_at (n := 2) (j := 0) (by decide) (fun k hk => absurd hk (Nat.not_lt_zero k)) ?_
  show (if _ ∧ Jd.fitS ⟨0, 3, cw, some (0, 0)⟩ (f 0 cw).2 = true then (Jd.ansS f _ (f 0 cw).1 [true, false]).map (0 :: ·) else none) = _
  rw [h1, s1, if_pos ⟨m0, rfl⟩]; rfl
theorem ex_b (h1 : f 0 cr = (0, (0, 0))) : Jd.ansS f [⟨0, 1, cr, some (0, 5)⟩, ⟨2, 3, cw, some (0, 0)⟩] 0 [false, false] = none := by
  have e0 : Jd.wholeS (γ := Cd) (α := Ad) [⟨0, 1, cr, some (0, 5)⟩, ⟨2, 3, cw, some (0, 0)⟩] [false, false] = false := rfl
  have m0 : Jd.mayS (γ := Cd) (α := Ad) [⟨0, 1, cr, some (0, 5)⟩, ⟨2, 3, cw, some (0, 0)⟩] [false, false] 1 = false := rfl
  rw [Jd.ans_step, if_neg (by rw [e0]; decide), List.findSome?_eq_none_iff]
  intro k hk
  have hk2 : k < 2 := List.mem_range.1 hk
  have : k = 0 ∨ k = 1 := by omega
  rcases this with rfl | rfl
  · show (if _ ∧ Jd.fitS ⟨0, 1, cr, some (0, 5)⟩ (f 0 cr).2 = true then _ else none) = none
    rw [h1, if_neg (fun q => by cases q.2)]
  · show (if _ ∧ _ then _ else none) = none
    rw [if_neg (fun q => by rw [m0] at q; cases q.1)]
theorem ex_c : Jd.ansS f [⟨0, 1, cr, none⟩] 0 [false] = some [] := by
  have e0 : Jd.wholeS (γ := Cd) (α := Ad) [⟨0, 1, cr, none⟩] [false] = true := rfl
  rw [Jd.ans_step, if_pos e0]
theorem ex_d (h1 : f 0 cr = (0, (0, 0))) : Jd.ansS f [⟨0, 1, cr, some (0, 5)⟩] 0 [false] = none := by
  have e0 : Jd.wholeS (γ := Cd) (α := Ad) [⟨0, 1, cr, some (0, 5)⟩] [false] = false := rfl
  rw [Jd.ans_step, if_neg (by rw [e0]; decide), List.findSome?_eq_none_iff]
  intro k hk
  have hk2 : k < 1 := List.mem_range.1 hk
  obtain rfl : k = 0 := by omega
  show (if _ ∧ Jd.fitS ⟨0, 1, cr, some (0, 5)⟩ (f 0 cr).2 = true then _ else none) = none
  rw [h1, if_neg (fun q => by cases q.2)]
end plain

/-- The example's histories. -/
@[reducible] def evCall (t n : Int) (nm : ByteArray) (h : Hd) : shE.T := (0, t, n, (nm, h), (0, 0))
@[reducible] def evAns (t n v : Int) : shE.T := (1, t, n, (ByteArray.empty, (none, 0, 0)), (0, v))
def exA (h : Hd) : List shE.T := [evCall 1 1 wWrite h, evCall 2 1 wRead (none, 0, 0), evAns 2 1 5, evAns 1 1 0]
def exB (h : Hd) : List shE.T := [evCall 2 1 wRead (none, 0, 0), evAns 2 1 5, evCall 1 1 wWrite h, evAns 1 1 0]
/-- Its arguments. -/
def exD (h : Hd) : List Int := if h.2.1 = 0 then [] else [5]
theorem ex_form (h : Hd) : formE (exA h) = 0 ∧ formE (exB h) = 0 := ⟨rfl, rfl⟩
theorem ex_few (h : Hd) : (callsJ (exA h)).length = 2 ∧ (callsJ (exB h)).length = 2 := ⟨rfl, rfl⟩
theorem ex_wrong (h : Hd) : wrongJ (exA h) = 0 ∧ wrongJ (exB h) = 0 := by
  unfold wrongJ
  rw [(ex_form h).1, (ex_form h).2, (ex_few h).1, (ex_few h).2]
  exact ⟨rfl, rfl⟩
theorem ex_leastA (p : Option Addr) (c : Nat) : leastJ exD (exA (p, 1, c)) = some [0, 1] := by
  have e : csJ (exA (p, 1, c)) = [⟨0, 3, (wWrite, (p, 1, c)), some (0, 0)⟩, ⟨1, 2, (wRead, (none, 0, 0)), some (0, 5)⟩] := rfl
  unfold leastJ
  rw [e]
  refine ex_a ?_ ?_
  · show doE 0 wWrite [5] = _
    rw [do_write]; rfl
  · show doE 5 wRead [] = _
    rw [do_read]
theorem read0 : stepE exD 0 (wRead, (none, 0, 0)) = (0, (0, 0)) := by
  show doE 0 wRead [] = _
  rw [do_read]
theorem ex_leastB (p : Option Addr) (c : Nat) : leastJ exD (exB (p, 1, c)) = none := by
  have e : csJ (exB (p, 1, c)) = [⟨0, 1, (wRead, (none, 0, 0)), some (0, 5)⟩, ⟨2, 3, (wWrite, (p, 1, c)), some (0, 0)⟩] := rfl
  unfold leastJ
  rw [e]
  exact ex_b read0
theorem ex_blame (p : Option Addr) (c : Nat) : blameJ exD (exB (p, 1, c)) = 1 := by
  have e1 : csJ ((exB (p, 1, c)).take 1) = [⟨0, 1, (wRead, (none, 0, 0)), none⟩] := rfl
  have e2 : csJ ((exB (p, 1, c)).take 2) = [⟨0, 1, (wRead, (none, 0, 0)), some (0, 5)⟩] := rfl
  have l1 : leastJ exD ((exB (p, 1, c)).take 1) = some [] := by unfold leastJ; rw [e1]; exact ex_c
  have l2 : leastJ exD ((exB (p, 1, c)).take 2) = none := by unfold leastJ; rw [e2]; exact ex_d read0
  have hb := find_first (P := fun n => (leastJ exD ((exB (p, 1, c)).take (n + 1))).isNone) (n := (exB (p, 1, c)).length) (j := 1) (by show 1 < 4; decide)
    (fun k hk => by
      obtain rfl : k = 0 := by omega
      show (leastJ exD ((exB (p, 1, c)).take 1)).isNone = false
      rw [l1]; rfl)
    (by
      show (leastJ exD ((exB (p, 1, c)).take 2)).isNone = true
      rw [l2]; rfl)
  unfold blameJ
  rw [hb]
  rfl
end Go.Proofs.YtpfghndflegbaaaDoor
