/- law57: the program's read and Parse. -/
import Derived.Test.YtpeehenohdlfdaaGreatDoorFm
namespace Go.Proofs.YtpeehenohdlfdaaGreatDoor
open Go Go.Vc Go.Sort
set_option maxRecDepth 100000
set_option maxHeartbeats 4000000

def isNum (l : List Rc.Ev) (t n : Int) : Bool := match Rc.openM l t with
  | none => true
  | some c => decide (c.1 = n)
theorem matched_spec (S : Store) (x : Hx) (l : List Rc.Ev) (hx : HIs S x l) (t n : Int) : Pure Tryz.prog 69 S [vH x, .int .i64 t, .int .i64 n] (A := Unit) (fun _ => rB (isNum l t n)) (fun _ _ => True) := by
  refine pure_vc agrees Tryz.func69 rfl rfl (fun S S' q hle h => h) ?_
  obtain ⟨om, ho1, ho2, ho3⟩ := hx.os
  refine ⟨om, ho1, t, ((0 : Int), false), rfl, rfl, ?_⟩
  unfold isNum
  cases hm : Rc.openM l t with
  | none => exact onE (show (!(mget shI om t).isSome) = true by rw [ho3 t, hm]; rfl) ⟨rfl, (), rfl, trivial⟩
  | some c =>
    have hg : mget shI om t = some c := (ho3 t).trans hm
    refine offE (show (!(mget shI om t).isSome) = false by rw [hg]; rfl) ⟨rfl, (), ?_, trivial⟩
    have : ((mget shI om t).getD ((0 : Int), false)).1 = c.1 := by rw [hg]; rfl
    show rB (decide (c.1 = n)) = rB (((mget shI om t).getD ((0 : Int), false)).1 == n)
    rw [this]
    congr 3
/-- A part of some words. -/
theorem row_take {S : Store} {p : Option Addr} {sh : Shape} {xs : List sh.T} (h : RowRd S p sh xs) (k : Nat) : RowRd S p sh (xs.take k) := by
  refine ⟨?_, fun x hx => h.2 x (List.mem_of_mem_take hx)⟩
  rcases h.1 with e | ⟨b, o, e, hr⟩
  · exact .inl (by rw [e, List.take_nil])
  · refine .inr ⟨b, o, e, fun j x hj => hr j x ?_⟩
    have : xs.flatMap sh.enc = (xs.take k).flatMap sh.enc ++ (xs.drop k).flatMap sh.enc := by rw [← List.flatMap_append, List.take_append_drop]
    rw [this, List.getElem?_append_left (List.getElem?_eq_some_iff.1 hj).1]
    exact hj
theorem ws_drop {S : Store} {p : Option Addr} {n c : Nat} {ws : List Sc.Bs} (h : WsIs S (p, n, c) ws) (k m : Nat) (hm : k + m ≤ ws.length) : WsIs S (if c = k then p else p.map fun p => addrAdd p (k * 1), m, c - k) ((ws.drop k).take m) := by
  have hn : n = ws.length := h.len
  have hc : n ≤ c := h.cap
  have hr : RowRd S p .str (ws.map bs) := h.row
  refine ⟨?_, ?_, ?_, fun w hw => h.few w (List.mem_of_mem_drop (List.mem_of_mem_take hw))⟩
  · show m = _; rw [List.length_take, List.length_drop]; omega
  · show m ≤ c - k; omega
  · have := row_take (hr.drop (c := c) (k := k) (sz := 1) (by rw [List.length_map]; omega) rfl) m
    rw [List.map_take, List.map_drop]; exact this
theorem ans_open {l : List Rc.Ev} {t er va : Int} (h : (Rc.answerR l t er va).2 = 0) : ∃ c, Rc.openM l t = some c := by
  cases hm : Rc.openM l t with
  | some c => exact ⟨c, rfl⟩
  | none =>
    unfold Rc.answerR at h
    by_cases h1 : t < 1 ∨ 8 < t
    · rw [if_pos h1] at h; cases h
    rw [if_neg h1, if_pos (Rc.open_iff.2 hm)] at h; cases h
theorem com_open {l : List Rc.Ev} {t : Int} (h : (Rc.commitR l t).2 = 0) : ∃ c, Rc.openM l t = some c := by
  cases hm : Rc.openM l t with
  | some c => exact ⟨c, rfl⟩
  | none =>
    unfold Rc.commitR at h
    by_cases h1 : t < 1 ∨ 8 < t
    · rw [if_pos h1] at h; cases h
    rw [if_neg h1, if_pos (Rc.open_iff.2 hm)] at h; cases h
theorem is_num {l : List Rc.Ev} {t n : Int} {c : Int × Bool} (h : Rc.openM l t = some c) : isNum l t n = decide (Rc.numAt l (Rc.openR l t) = n) := by
  unfold isNum; rw [h, Rc.num_open h]
theorem in_ok {w : Sc.Bs} (h : Sc.okW w = true) : inI64 (Txt.valOf w) := in64_iff.1 (Sc.okW_in h)
theorem ns_of_ok {S : Store} {q : Hd} {ws : List Sc.Bs} {b : Bool} (h : WPost ws S (q, b)) (hk : ws.all Sc.okW = true) : b = true ∧ NsIs S q (ws.map Txt.valOf) := by
  unfold WPost at h; rw [if_pos hk] at h; exact h
theorem ns_of_no {S : Store} {q : Hd} {ws : List Sc.Bs} {b : Bool} (h : WPost ws S (q, b)) (hk : ws.all Sc.okW = false) : b = false := by
  unfold WPost at h; rw [if_neg (by rw [hk]; simp)] at h; exact h
theorem readCall_spec (S : Store) (hL : Lw S) (x : Hx) (l : List Rc.Ev) (hx : HIs S x l) (wq : Hd) (w0 a b nm : Sc.Bs) (ar : List Sc.Bs) (hw : WsIs S wq (w0 :: a :: b :: nm :: ar)) (hn : ar.length ≤ 900000) :
    Pure Tryz.prog 67 S [vH x, slV wq] (A := Hx × Int) rHE (fun S' y => HPost (Rc.readC l (a :: b :: nm :: ar)) S' y) := by
  obtain ⟨p, n, c⟩ := wq
  have hlen : n = ar.length + 4 := hw.len
  subst hlen
  have hcap : ar.length + 4 ≤ c := hw.cap
  have h1 := ws_drop hw 1 2 (by simp)
  have h2 := ws_drop hw 4 ar.length (by simp; omega)
  have e1 : ((w0 :: a :: b :: nm :: ar).drop 1).take 2 = [a, b] := rfl
  have e2 : ((w0 :: a :: b :: nm :: ar).drop 4).take ar.length = ar := List.take_length
  rw [e1] at h1
  rw [e2] at h2
  refine pure_vc agrees Tryz.func67 rfl rfl (fun S S' q hle h => h.le hle) ?_
  refine ⟨by decide, by decide, by decide, by show 3 ≤ c; omega, ⟨_, rfl, rfl, rfl⟩, .inl ⟨_, _, _, whole_spec S hL (if c = Int.toNat 1 then p else p.map fun p => addrAdd p (Int.toNat 1 * 1), Int.toNat 3 - Int.toNat 1, c - Int.toNat 1) [a, b] h1 (by show 2 ≤ 1000000000; omega), fun S1 y1 hS1 hy1 => ?_⟩⟩
  refine ⟨by decide, by show 4 ≤ ar.length + 4; omega, by show ar.length + 4 ≤ c; omega, ⟨_, rfl, rfl, rfl⟩, .inl ⟨_, _, _, whole_spec S1 (hL.le hS1) (if c = Int.toNat 4 then p else p.map fun p => addrAdd p (Int.toNat 4 * 1), ar.length + 4 - Int.toNat 4, c - Int.toNat 4) ar (h2.le hS1) (by omega), fun S2 y2 hS2 hy2 => ?_⟩⟩
  obtain ⟨q1, b1⟩ := y1
  obtain ⟨q2, b2⟩ := y2
  have hx2 := (hx.le hS1).le hS2
  have hbad : (Sc.okW a && Sc.okW b && ar.all Sc.okW) = false → Rc.readC l (a :: b :: nm :: ar) = (l, 5) := fun q => by
    unfold Rc.readC; dsimp only; rw [if_neg (by rw [q]; simp)]
  cases k1 : [a, b].all Sc.okW with
  | false =>
    obtain rfl := ns_of_no hy1 k1
    refine onT (onT ⟨rfl, (x, 5), rfl, ?_⟩)
    rw [hbad (by simp at k1; cases ha : Sc.okW a with | false => rfl | true => rw [k1 ha]; rfl)]
    exact ⟨hx2, rfl⟩
  | true =>
    obtain ⟨rfl, hn1⟩ := ns_of_ok hy1 k1
    have ka : Sc.okW a = true ∧ Sc.okW b = true := by simpa using k1
    refine onF ?_
    cases k2 : ar.all Sc.okW with
    | false =>
      obtain rfl := ns_of_no hy2 k2
      refine onT ⟨rfl, (x, 5), rfl, ?_⟩
      rw [hbad (by rw [k2, Bool.and_false])]
      exact ⟨hx2, rfl⟩
    | true =>
      obtain ⟨rfl, hn2⟩ := ns_of_ok hy2 k2
      refine onF ?_
      obtain ⟨q1p, q1n, q1c⟩ := q1
      have hq1 : q1n = 2 := hn1.len
      subst hq1
      have hr1 : RowRd S1 q1p shI [Txt.valOf a, Txt.valOf b] := hn1.row
      obtain ⟨ba, oa, pa, -, ra⟩ := row_at (hr1.le hS2) (i := 0) rfl
      obtain ⟨bb, ob, pb, -, rb⟩ := row_at (hr1.le hS2) (i := 1) rfl
      have hrw : RowRd S p .str ((w0 :: a :: b :: nm :: ar).map bs) := hw.row
      obtain ⟨bn, on, pn, -, rn⟩ := row_at ((hrw.le hS1).le hS2) (i := 3) rfl
      have hnm := hw.few nm (by simp)
      refine ⟨or67_5, [1], oF67_5, by kernel_rfl, Int.le_refl _, by show (0 : Int) < ((2 : Nat) : Int); decide, ba, oa, pa, Txt.valOf a, trivial, ra, by decide, by show (1 : Int) < ((2 : Nat) : Int); decide, bb, ob, pb, Txt.valOf b, trivial, rb, by decide, by show (3 : Int) < ((ar.length + 4 : Nat) : Int); omega, bn, on, pn, bs nm, trivial, rn, ?_⟩
      refine ⟨⟨_, rfl, rfl, rfl⟩, .inl ⟨_, _, _, call_spec S2 x l hx2 (Txt.valOf a) (Txt.valOf b) (in_ok ka.1) (in_ok ka.2) nm hnm q2 (ar.map Txt.valOf) hn2 (by rw [List.length_map]; omega), fun S3 y hS3 hy => ⟨rfl, y, rfl, ?_⟩⟩⟩
      have : Rc.readC l (a :: b :: nm :: ar) = Rc.callR l (Txt.valOf a) (Txt.valOf b) nm (ar.map Txt.valOf) := by
        unfold Rc.readC; dsimp only; rw [if_pos (by rw [ka.1, ka.2, k2]; rfl)]
      rw [this]; exact hy
theorem readA_bad {l : List Rc.Ev} {ws : List Sc.Bs} (h : ws.length ≠ 4 ∨ ws.all Sc.okW = false) : Rc.readA l ws = (l, 5) := by
  unfold Rc.readA
  split
  · rename_i a b c d
    rcases h with h | h
    · exact absurd rfl h
    · rw [if_neg]
      intro q
      simp only [Bool.and_eq_true] at q
      simp only [List.all_cons, q.1.1.1, q.1.1.2, q.1.2, q.2, List.all_nil, Bool.and_true] at h
      cases h
  · rfl
theorem readM_bad {l : List Rc.Ev} {ws : List Sc.Bs} (h : ws.length ≠ 2 ∨ ws.all Sc.okW = false) : Rc.readM l ws = (l, 5) := by
  unfold Rc.readM
  split
  · rename_i a b
    rcases h with h | h
    · exact absurd rfl h
    · rw [if_neg]
      intro q
      simp only [Bool.and_eq_true] at q
      simp only [List.all_cons, q.1, q.2, List.all_nil, Bool.and_true] at h
      cases h
  · rfl
theorem readC_bad {l : List Rc.Ev} {ws : List Sc.Bs} (h : ws.length < 3) : Rc.readC l ws = (l, 5) := by
  unfold Rc.readC
  split
  · rename_i a b nm ar; simp at h; omega
  · rfl
end Go.Proofs.YtpeehenohdlfdaaGreatDoor
