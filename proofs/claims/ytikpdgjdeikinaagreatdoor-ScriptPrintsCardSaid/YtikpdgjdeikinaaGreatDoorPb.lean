/- law63: plain laws: what is printed is read back; what is read is printed again. Conditions: none. -/
import Derived.Test.YtikpdgjdeikinaaGreatDoorPa
namespace Go.Proofs.YtikpdgjdeikinaaGreatDoor.Sc
open Go Go.Txt
set_option maxRecDepth 100000

theorem okW_itoa {n : Int} (h : in64 n = true) : okW (Lib.itoa n) = true := by unfold okW; rw [canon_itoa, val_itoa, h]; rfl
theorem itoa_okW {w : Bs} (h : okW w = true) : Lib.itoa (valOf w) = w := itoa_val (by unfold okW at h; simp at h; exact h.1)
theorem okW_in {w : Bs} (h : okW w = true) : in64 (valOf w) = true := by unfold okW at h; simp at h; exact h.2
theorem map_itoa {l : List Bs} (h : l.all okW = true) : (l.map valOf).map Lib.itoa = l := by
  rw [List.map_map]
  conv => rhs; rw [← List.map_id l]
  refine List.map_congr_left fun w hw => itoa_okW (List.all_eq_true.1 h w hw)
theorem map_val (ns : List Int) : (ns.map Lib.itoa).map valOf = ns := by
  rw [List.map_map]
  have : (valOf ∘ Lib.itoa) = id := funext val_itoa
  rw [this, List.map_id]
theorem all_ok {ns : List Int} (h : ∀ n ∈ ns, in64 n = true) : (ns.map Lib.itoa).all okW = true := by
  rw [List.all_map, List.all_eq_true]; exact fun n hn => okW_itoa (h n hn)
theorem nameB_ne {b c : UInt8} (h : nameB b = true) (hc : c.toNat < 48) : b ≠ c := by
  intro e; subst e
  unfold nameB at h; simp at h; omega
theorem plainB_ne {b c : UInt8} (h : plainB b = true) (hc : c.toNat < 32) : b ≠ c := by
  intro e; subst e
  unfold plainB at h; simp at h; omega
theorem named_no {w : Bs} (h : namedW w = true) {c : UInt8} (hc : c.toNat < 48) : c ∉ w := by
  unfold namedW at h; simp at h
  exact fun hm => nameB_ne (h.2.2 _ hm) hc rfl
theorem plain_no {w : Bs} (h : plainW w = true) {c : UInt8} (hc : c.toNat < 32) : c ∉ w := by
  unfold plainW at h; simp at h
  exact fun hm => plainB_ne (h.2 _ hm) hc rfl
/-- What a check that passes says. -/
theorem check_ok {c : Cmd} (h : checkR c = 0) : 0 ≤ c.2.1 ∧ c.2.1 ≤ 15 ∧ leastOf c.2.1 ≤ c.2.2.1.length ∧ c.2.2.1.length ≤ leastOf c.2.1 + moreOf c.2.1 ∧ fitsW (kindOf c.2.1) c.2.2.2 = true ∧ rangeOk (bnds c.2.1) c.2.2.1 = true := by
  unfold checkR at h
  by_cases h1 : c.2.1 < 0 ∨ 15 < c.2.1
  · rw [if_pos h1] at h; cases h
  rw [if_neg h1] at h
  by_cases h2 : c.2.2.1.length < leastOf c.2.1 ∨ leastOf c.2.1 + moreOf c.2.1 < c.2.2.1.length ∨ fitsW (kindOf c.2.1) c.2.2.2 = false
  · rw [if_pos h2] at h; cases h
  rw [if_neg h2] at h
  by_cases h3 : rangeOk (bnds c.2.1) c.2.2.1 = false
  · rw [if_pos h3] at h; cases h
  refine ⟨by omega, by omega, by omega, by omega, ?_, by simpa using h3⟩
  cases hf : fitsW (kindOf c.2.1) c.2.2.2
  · exact absurd (.inr (.inr hf)) h2
  · rfl
theorem check_line (n m : Int) (x : Int × List Int × List Bs) : checkR (n, x) = checkR (m, x) := rfl
theorem fits_zero {ws : List Bs} (h : fitsW 0 ws = true) : ws = [] := by
  unfold fitsW at h
  split at h
  · rfl
  · simp at h
  · cases h
theorem fits_one {ws : List Bs} (h : fitsW 1 ws = true) : ∃ w, ws = [w] ∧ plainW w = true := by
  unfold fitsW at h
  split at h
  · simp at h
  · simp at h; exact ⟨_, rfl, h⟩
  · cases h
theorem fits_two {ws : List Bs} (h : fitsW 2 ws = true) : ∃ w, ws = [w] ∧ namedW w = true := by
  unfold fitsW at h
  split at h
  · simp at h
  · simp at h; exact ⟨_, rfl, h⟩
  · cases h
theorem least_one : leastOf 1 = 0 := rfl
theorem more_one : moreOf 1 = 0 := rfl
/-- The words of a valid command, by its kind. -/
theorem words_cases {c : Cmd} (h : checkR c = 0) : (kindOf c.2.1 = 0 ∧ c.2.2.2 = [] ∧ wordsOf c = nameOf c.2.1 :: c.2.2.1.map Lib.itoa) ∨
    (kindOf c.2.1 = 1 ∧ c.2.1 = 1 ∧ c.2.2.1 = [] ∧ ∃ w, c.2.2.2 = [w] ∧ plainW w = true ∧ wordsOf c = [nameOf 1, w]) ∨
    (kindOf c.2.1 = 2 ∧ ∃ w, c.2.2.2 = [w] ∧ namedW w = true ∧ wordsOf c = nameOf c.2.1 :: ((c.2.2.1.take (leastOf c.2.1)).map Lib.itoa ++ w :: (c.2.2.1.drop (leastOf c.2.1)).map Lib.itoa)) := by
  obtain ⟨-, -, h1, h2, h3, -⟩ := check_ok h
  rcases kind_cases c.2.1 with hk | hk | hk
  · rw [hk] at h3
    have := fits_zero h3
    refine .inl ⟨hk, this, ?_⟩
    unfold wordsOf
    rw [this, List.append_nil, ← List.map_append, List.take_append_drop]
  · rw [hk] at h3
    obtain ⟨w, hw, hp⟩ := fits_one h3
    have ho := kind_one.1 hk
    have hn : c.2.2.1 = [] := by
      rw [ho, least_one, more_one] at h2
      exact List.eq_nil_of_length_eq_zero (by omega)
    refine .inr (.inl ⟨hk, ho, hn, w, hw, hp, ?_⟩)
    unfold wordsOf
    rw [hw, hn, ho]; rfl
  · rw [hk] at h3
    obtain ⟨w, hw, hp⟩ := fits_two h3
    refine .inr (.inr ⟨hk, w, hw, hp, ?_⟩)
    unfold wordsOf
    rw [hw, List.append_assoc]; rfl
theorem fin_ok {op : Int} {ns : List Int} {ws : List Bs} (hn : ∀ n ∈ ns, in64 n = true) (hc : checkR (0, op, ns, ws) = 0) : finR op (ns.map Lib.itoa) ws = ((0, op, ns, ws), 0) := by
  unfold finR
  rw [if_neg (by rw [all_ok hn]; simp), map_val, if_neg (by rw [hc]; simp)]
theorem take_mid {α : Type} {a b : List α} {x : α} {k : Nat} (h : a.length = k) : (a ++ x :: b).take k = a ∧ (a ++ x :: b).drop (k + 1) = b ∧ (a ++ x :: b)[k]? = some x := by
  subst h
  refine ⟨by simp, ?_, by simp⟩
  rw [List.drop_append]
  simp
/-- What is printed is read back. -/
theorem read_bare {c : Cmd} (h : checkR c = 0) (hn : ∀ n ∈ c.2.2.1, in64 n = true) : readR (bare c) = ((0, c.2), 0) := by
  obtain ⟨h0, h15, h1, h2, h3, h4⟩ := check_ok h
  have hop := op_name h0 h15
  have hsp : ∀ n : Int, (32 : UInt8) ∉ Lib.itoa n := fun n => itoa_sep.1
  have hname : (32 : UInt8) ∉ nameOf c.2.1 := name_no h0 h15 (by decide)
  obtain ⟨ln, op, ns, ws⟩ := c
  have h0 : 0 ≤ op := h0
  have hn : ∀ n ∈ ns, in64 n = true := hn
  have hop : opOf (nameOf op) = op := hop
  have hc : checkR (0, op, ns, ws) = 0 := h
  rcases words_cases h with ⟨hk, hw, e⟩ | ⟨hk, ho, hnn, w, hw, hp, e⟩ | ⟨hk, w, hw, hp, e⟩
  · have hk : kindOf op = 0 := hk
    have hw : ws = [] := hw
    have hpc : pieces 32 (bare (ln, op, ns, ws)) = nameOf op :: ns.map Lib.itoa := by
      unfold bare; rw [e]
      refine pieces_join (by simp) fun x hx => ?_
      rcases List.mem_cons.1 hx with rfl | hx
      · exact hname
      · obtain ⟨n, -, rfl⟩ := List.mem_map.1 hx; exact hsp n
    unfold readR; rw [hpc]
    show readW _ _ = _
    unfold readW
    rw [hop, if_neg (by omega), if_neg (by omega), if_neg (by omega), ← hw]
    exact fin_ok hn hc
  · have ho : op = 1 := ho
    have hnn : ns = [] := hnn
    have hw : ws = [w] := hw
    subst ho hnn hw
    have hpc : pieces 32 (bare (ln, 1, [], [w])) = nameOf 1 :: pieces 32 w := by
      unfold bare; rw [e]
      show pieces 32 (nameOf 1 ++ 32 :: joinC 32 [w]) = _
      rw [pieces_hit _ (by exact hname)]; rfl
    unfold readR; rw [hpc]
    show readW _ _ = _
    unfold readW
    rw [op_name (op := 1) (by decide) (by decide), if_neg (by decide), if_pos (by decide), join_pieces, if_neg (by rw [hp]; simp [pieces_ne])]
  · have hk : kindOf op = 2 := hk
    have hw : ws = [w] := hw
    have h1 : leastOf op ≤ ns.length := h1
    have hpc : pieces 32 (bare (ln, op, ns, ws)) = nameOf op :: ((ns.take (leastOf op)).map Lib.itoa ++ w :: (ns.drop (leastOf op)).map Lib.itoa) := by
      unfold bare; rw [e]
      refine pieces_join (by simp) fun x hx => ?_
      rcases List.mem_cons.1 hx with rfl | hx
      · exact hname
      · rcases List.mem_append.1 hx with hx | hx
        · obtain ⟨n, -, rfl⟩ := List.mem_map.1 hx; exact hsp n
        · rcases List.mem_cons.1 hx with rfl | hx
          · exact named_no hp (by decide)
          · obtain ⟨n, -, rfl⟩ := List.mem_map.1 hx; exact hsp n
    have hla : ((ns.take (leastOf op)).map Lib.itoa).length = leastOf op := by rw [List.length_map, List.length_take, Nat.min_eq_left h1]
    obtain ⟨t1, t2, t3⟩ := take_mid (a := (ns.take (leastOf op)).map Lib.itoa) (b := (ns.drop (leastOf op)).map Lib.itoa) (x := w) hla
    unfold readR; rw [hpc]
    show readW _ _ = _
    unfold readW
    rw [hop, if_neg (by omega), if_neg (by omega), if_pos hk, if_neg (by rw [List.length_append, hla, List.length_cons]; omega), t1, t2, List.getD_eq_getElem?_getD, t3, ← List.map_append, List.take_append_drop]
    show finR op _ [w] = _
    rw [← hw]
    exact fin_ok hn hc
theorem check_text {w : Bs} (h : plainW w = true) : checkR (0, 1, [], [w]) = 0 := by
  have hf : fitsW (kindOf (1 : Int)) [w] = true := by
    show fitsW 1 [w] = true
    simp [fitsW, h]
  unfold checkR
  show (if (1 : Int) < 0 ∨ 15 < (1 : Int) then (2 : Int) else if ([] : List Int).length < leastOf 1 ∨ leastOf 1 + moreOf 1 < ([] : List Int).length ∨ fitsW (kindOf (1 : Int)) [w] = false then 5 else if rangeOk (bnds 1) [] = false then 3 else 0) = 0
  rw [if_neg (by decide), if_neg, if_neg (by decide)]
  rintro (q | q | q)
  · exact absurd q (by decide)
  · exact absurd q (by decide)
  · rw [hf] at q; cases q
theorem fin_read {op : Int} {l ws : List Bs} {c : Cmd} (h : finR op l ws = (c, 0)) : l.all okW = true ∧ c = (0, op, l.map valOf, ws) ∧ checkR c = 0 := by
  unfold finR at h
  by_cases h1 : l.all okW = false
  · rw [if_pos h1] at h; simp at h
  rw [if_neg h1] at h
  by_cases h2 : checkR (0, op, l.map valOf, ws) ≠ 0
  · rw [if_pos h2] at h
    exact absurd (congrArg Prod.snd h) h2
  rw [if_neg h2] at h
  obtain rfl : _ = c := congrArg Prod.fst h
  exact ⟨by simpa using h1, rfl, by simpa using h2⟩
/-- A line that is read is the line of its command. -/
theorem read_line {s : Bs} {c : Cmd} (h : readR s = (c, 0)) : bare c = s ∧ checkR c = 0 ∧ (∀ n ∈ c.2.2.1, in64 n = true) ∧ c.1 = 0 := by
  have hj := join_pieces 32 s
  unfold readR at h
  cases hp : pieces 32 s with
  | nil => exact absurd hp (pieces_ne 32 s)
  | cons w0 ws =>
    rw [hp] at h hj
    simp only at h
    unfold readW at h
    by_cases h1 : opOf w0 < 0
    · rw [if_pos h1] at h; simp at h
    rw [if_neg h1] at h
    have hnm := name_op (w := w0) (by omega)
    have hor : opOf w0 ≤ 15 := by rcases op_range w0 with q | q <;> omega
    by_cases h2 : kindOf (opOf w0) = 1
    · rw [if_pos h2] at h
      by_cases h3 : ws = [] ∨ plainW (joinC 32 ws) = false
      · rw [if_pos h3] at h; simp at h
      rw [if_neg h3] at h
      obtain rfl : _ = c := congrArg Prod.fst h
      have ho := kind_one.1 h2
      have hpl : plainW (joinC 32 ws) = true := by
        cases hq : plainW (joinC 32 ws)
        · exact absurd (.inr hq) h3
        · rfl
      refine ⟨?_, ?_, (fun n hn => by cases hn), rfl⟩
      · show joinC 32 (wordsOf _) = s
        rw [← hj]
        have : wordsOf (0, opOf w0, [], [joinC 32 ws]) = [w0, joinC 32 ws] := by
          unfold wordsOf
          simp only [List.take_nil, List.drop_nil, List.map_nil, List.nil_append, List.append_nil]
          rw [hnm]
        rw [this]
        cases ws with
        | nil => exact absurd (.inl rfl) h3
        | cons v vs => rfl
      · rw [ho]; exact check_text hpl
    rw [if_neg h2] at h
    by_cases h3 : kindOf (opOf w0) = 2
    · rw [if_pos h3] at h
      by_cases h4 : ws.length ≤ leastOf (opOf w0)
      · rw [if_pos h4] at h; simp at h
      rw [if_neg h4] at h
      obtain ⟨a1, rfl, a2⟩ := fin_read h
      have a1 : ((ws.take (leastOf (opOf w0)) ++ ws.drop (leastOf (opOf w0) + 1)).all okW) = true := a1
      refine ⟨?_, a2, ?_, rfl⟩
      · show joinC 32 (wordsOf _) = s
        rw [← hj]
        congr 1
        unfold wordsOf
        dsimp only
        rw [hnm]
        congr 1
        rw [← List.map_take, ← List.map_drop]
        have hl : (ws.take (leastOf (opOf w0))).length = leastOf (opOf w0) := by rw [List.length_take, Nat.min_eq_left (by omega)]
        have ht : (ws.take (leastOf (opOf w0)) ++ ws.drop (leastOf (opOf w0) + 1)).take (leastOf (opOf w0)) = ws.take (leastOf (opOf w0)) := by
          rw [List.take_append, hl, Nat.sub_self, List.take_zero, List.append_nil, List.take_take, Nat.min_self]
        have hd : (ws.take (leastOf (opOf w0)) ++ ws.drop (leastOf (opOf w0) + 1)).drop (leastOf (opOf w0)) = ws.drop (leastOf (opOf w0) + 1) := by
          rw [List.drop_append, hl, Nat.sub_self, List.drop_zero, List.drop_take, Nat.sub_self, List.take_zero, List.nil_append]
        rw [ht, hd]
        rw [List.all_append, Bool.and_eq_true] at a1
        rw [map_itoa a1.1, map_itoa a1.2, List.getD_eq_getElem?_getD, List.getElem?_eq_getElem (by omega), Option.getD_some]
        rw [List.append_assoc, List.singleton_append, List.getElem_cons_drop, List.take_append_drop]
      · intro n hn
        obtain ⟨w, hw, rfl⟩ := List.mem_map.1 hn
        exact okW_in (List.all_eq_true.1 a1 w hw)
    · rw [if_neg h3] at h
      obtain ⟨a1, rfl, a2⟩ := fin_read h
      refine ⟨?_, a2, ?_, rfl⟩
      · show joinC 32 (wordsOf _) = s
        rw [← hj]
        congr 1
        unfold wordsOf
        dsimp only
        rw [hnm, List.append_nil, ← List.map_append, List.take_append_drop, map_itoa a1]
      · intro n hn
        obtain ⟨w, hw, rfl⟩ := List.mem_map.1 hn
        exact okW_in (List.all_eq_true.1 a1 w hw)
end Go.Proofs.YtikpdgjdeikinaaGreatDoor.Sc
