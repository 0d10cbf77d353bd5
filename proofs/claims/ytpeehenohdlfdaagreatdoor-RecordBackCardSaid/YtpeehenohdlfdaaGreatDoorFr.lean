/- law57: the reference's read. -/
import Derived.Test.YtpeehenohdlfdaaGreatDoorFp
import Derived.Test.YtpeehenohdlfdaaGreatDoorFe
namespace Go.Proofs.YtpeehenohdlfdaaGreatDoor
open Go Go.Vc Go.Sort
set_option maxRecDepth 100000
set_option maxHeartbeats 8000000

/-- The words that are numbers, among the first. -/
def selC (c : Bool) (ws : List Sc.Bs) (j : Nat) : List Sc.Bs := if c = true then (ws.take j).eraseIdx 2 else ws.take j
theorem sel_skip {ws : List Sc.Bs} (h : 2 < ws.length) : selC true ws (2 + 1) = selC true ws 2 := by
  match ws, h with
  | a :: b :: c :: r, _ => rfl
theorem sel_next {c : Bool} {ws : List Sc.Bs} {j : Nat} {w : Sc.Bs} (h : ws[j]? = some w) (hk : c = true → j ≠ 2) : selC c ws (j + 1) = selC c ws j ++ [w] := by
  have hl : j < ws.length := (List.getElem?_eq_some_iff.1 h).1
  have ht : ws.take (j + 1) = ws.take j ++ [w] := by rw [List.take_add_one, h]; rfl
  have hlen : (ws.take j).length = j := by rw [List.length_take]; omega
  unfold selC
  rw [ht]
  cases c with
  | false => rfl
  | true =>
    rw [if_pos rfl, if_pos rfl]
    have hj := hk rfl
    rcases Nat.lt_or_ge j 2 with q | q
    · rw [List.eraseIdx_of_length_le (by simp; omega), List.eraseIdx_of_length_le (by omega)]
    · rw [List.eraseIdx_append_of_lt_length (by omega)]
theorem sel_len {c : Bool} {ws : List Sc.Bs} {j : Nat} : (selC c ws j).length ≤ ws.length := by
  unfold selC
  cases c with
  | false => simp; omega
  | true =>
    rw [if_pos rfl, List.length_eraseIdx, List.length_take]
    split <;> omega
theorem call_bad {l : List Rc.Ev} {ws : List Sc.Bs} {j : Nat} {w : Sc.Bs} (h : ws[j]? = some w) (hj : j ≠ 2) (hw : Sc.okW w = false) : Rc.readC l ws = (l, 5) := by
  unfold Rc.readC
  split
  · rename_i a b nm ar
    rw [if_neg]
    intro q
    simp only [Bool.and_eq_true] at q
    match j, h, hj with
    | 0, h, _ => simp at h; rw [← h, q.1.1] at hw; cases hw
    | 1, h, _ => simp at h; rw [← h, q.1.2] at hw; cases hw
    | j + 3, h, _ =>
      simp at h
      have := List.all_eq_true.1 q.2 w (List.mem_of_getElem? h)
      rw [this] at hw; cases hw
  · rfl
theorem all_bad {ws : List Sc.Bs} {j : Nat} {w : Sc.Bs} (h : ws[j]? = some w) (hw : Sc.okW w = false) : ws.all Sc.okW = false := by
  cases hq : ws.all Sc.okW with
  | false => rfl
  | true => have := List.all_eq_true.1 hq w (List.mem_of_getElem? h); rw [this] at hw; cases hw
/-- The last event of some events. -/
theorem last_at {S : Store} {q : Hd} {l : List Rc.Ev} {e : Rc.Ev} (h : LIs S q (l ++ [e])) : ∃ b o xn, q.1 = some ⟨b, o, none⟩ ∧ S.rd b (o + l.length * 7 + 2) [.int .i64 xn] ∧ xn = e.n ∧ q.2.1 = l.length + 1 := by
  have hn := li_len h
  obtain ⟨x, e', b, o, he, hx, hp, hrd⟩ := ev_at h (i := l.length) (by simp)
  simp at he
  subst he
  obtain ⟨xk, xt, xn, xr⟩ := x
  exact ⟨b, o, xn, hp, rd_field hrd rfl, hx.n, by rw [hn]; simp⟩
theorem refRead_spec (S : Store) (q : Hd) (l : List Rc.Ev) (hl : LIs S q l) (hll : l.length ≤ 1000000) (s : Sc.Bs) (hs : s.length ≤ 800000) : Pure Tryz.prog 47 S [slV q, .string (bs s)] (A := Hd × Int) rLE (fun S' y => LPost (Rc.readR l s) S' y) := by
  have hq := li_len hl
  obtain ⟨p, m, c⟩ := q
  have hq : m = l.length := hq
  subst hq
  refine pure_vc agrees Tryz.func47 rfl rfl (fun S S' q hle h => h.le hle) ?_
  refine ⟨⟨_, rfl, rfl, rfl⟩, .inl ⟨_, _, _, cutw_spec S s (by omega), fun S1 wq hS1 hwq => ?_⟩⟩
  have hl1 := hl.le hS1
  have hcount := Txt.pieces_count 32 s
  by_cases hc : s = Rc.wCra
  · refine onE (isE hc) ?_
    by_cases h5 : 1024 ≤ l.length
    · refine onE (decide_eq_true (by show ((l.length : Nat) : Int) ≥ 1024; omega)) ⟨rfl, ((p, l.length, c), 9), rfl, ?_⟩
      unfold Rc.readR; rw [if_pos hc, if_pos h5]; exact ⟨hl1, rfl⟩
    · refine offE (decide_eq_false (by show ¬ ((l.length : Nat) : Int) ≥ 1024; omega)) ⟨⟨_, rfl, rfl, rfl⟩, .inl ⟨_, _, _, refCrash_spec S1 (p, l.length, c) l hl1 hll, fun S3 y hS3 hy => ⟨rfl, (y, 0), rfl, ?_⟩⟩⟩
      unfold Rc.readR; rw [if_pos hc, if_neg h5]
      unfold Rc.crashR at hy; rw [if_neg h5] at hy
      exact ⟨hy, rfl⟩
  refine offE (isN hc) ?_
  obtain ⟨w0, ws, hW⟩ : ∃ w0 ws, Txt.pieces 32 s = w0 :: ws := by
    cases h : Txt.pieces 32 s with
    | nil => exact absurd h (Txt.pieces_ne 32 s)
    | cons a b => exact ⟨a, b, rfl⟩
  have hR := readR_of (l := l) hc hW
  have hwl0 : wq.2.1 = ((w0 :: ws).map bs).length := by rw [hwq.1]; unfold wordsR; rw [hW]
  have hwr0 : RowRd S1 wq.1 .str ((w0 :: ws).map bs) := by have := hwq.2; unfold wordsR at this; rwa [hW] at this
  have hfew : ∀ w ∈ ws, w.length ≤ 1000000 := fun w hw => by have := Txt.pieces_len (c := 32) (s := s) (w := w) (by rw [hW]; simp [hw]); omega
  have hfew0 : w0.length ≤ 1000000 := by have := Txt.pieces_len (c := 32) (s := s) (w := w0) (by rw [hW]; simp); omega
  rw [hW] at hcount
  rw [hR]
  obtain ⟨wp, wn, wc⟩ := wq
  have hwn : wn = ws.length + 1 := by have := hwl0; simp at this; exact this
  subst hwn
  have hwr : RowRd S1 wp .str ((w0 :: ws).map bs) := hwr0
  have hwl : ws.length ≤ 800000 := by simp at hcount; omega
  obtain ⟨b0, o0, p0, -, r0⟩ := row_at hwr (i := 0) rfl
  have g0 : (0 : Int) < ((ws.length + 1 : Nat) : Int) := by omega
  clear hc hR hW hcount hwl0 hwr0 hwq
  by_cases h3 : ws.length < 2
  · refine onE (decide_eq_true (by show ((ws.length + 1 : Nat) : Int) < 3; omega)) (onT (onT (onT (onT ⟨rfl, ((p, l.length, c), 5), rfl, ?_⟩))))
    rw [readC_bad (by omega), readA_bad (.inl (by omega)), readM_bad (.inl (by omega))]
    have : (if w0 = Rc.wCall then (l, (5 : Int)) else if w0 = Rc.wAns then (l, 5) else if w0 = Rc.wCom then (l, 5) else (l, 5)) = (l, 5) := by split <;> first | rfl | (split <;> first | rfl | (split <;> rfl))
    rw [this]; exact ⟨hl1, rfl⟩
  refine offE (decide_eq_false (by show ¬ ((ws.length + 1 : Nat) : Int) < 3; omega)) ⟨Int.le_refl _, g0, b0, o0, p0, bs w0, trivial, r0, ?_⟩
  by_cases hcall : w0 = Rc.wCall
  · have na : w0 ≠ Rc.wAns := by rw [hcall]; decide
    have nm : w0 ≠ Rc.wCom := by rw [hcall]; decide
    rw [if_pos hcall]
    refine offE (ntT (isE hcall)) (onF (onF ⟨Int.le_refl _, g0, b0, o0, p0, bs w0, trivial, r0, onE (isE hcall) ?_⟩))
    by_cases h4 : ws.length < 3
    · refine onE (decide_eq_true (by show ((ws.length + 1 : Nat) : Int) < 4; omega)) (onT (onT ⟨rfl, ((p, l.length, c), 5), rfl, ?_⟩))
      rw [readC_bad h4]; exact ⟨hl1, rfl⟩
    refine offE (decide_eq_false (by show ¬ ((ws.length + 1 : Nat) : Int) < 4; omega)) ⟨Int.le_refl _, g0, b0, o0, p0, bs w0, trivial, r0, offE (isN na) (onF ⟨Int.le_refl _, g0, b0, o0, p0, bs w0, trivial, r0, offE (isN nm) (onF ?_)⟩)⟩
    refine ⟨[], [(7, shI, 2)], Nat, [9, 10] ++ List.range' 82 29, fun j => [(8, rI ((j + 1 : Nat) : Int))], fun j => [.row shI 2 ((selC true ws j).map Txt.valOf)], fun _ => S1, fun j => j ≤ ws.length ∧ (selC true ws j).all Sc.okW = true, fun j => ws.length - j, ?_⟩
    refine And.intro (Exists.intro 0 (And.intro (And.intro (And.intro ?_ rfl) (And.intro rfl (Store.le_refl _))) ⟨Nat.zero_le _, rfl⟩)) ?_
    · repeat' first | exact trivial | exact rfl | refine And.intro ?_ ?_
    rintro j ⟨hj, hall⟩
    have hj : j ≤ ws.length := hj
    have hall : (selC true ws j).all Sc.okW = true := hall
    have j0 : (0 : Int) ≤ ((j + 1 : Nat) : Int) := Int.natCast_nonneg _
    have wi : IntKind.i64.wrap (((j + 1 : Nat) : Int) + 1) = ((j + 1 + 1 : Nat) : Int) := wrap_i64 (by omega) (by omega)
    refine And.intro (fun h => ?_) (fun h => ?_)
    · have hjl : j < ws.length := by
        have : ((j + 1 : Nat) : Int) < ((ws.length + 1 : Nat) : Int) := of_decide_eq_true h
        omega
      clear h
      obtain ⟨w, hw⟩ : ∃ w, ws[j]? = some w := ⟨_, List.getElem?_eq_getElem hjl⟩
      obtain ⟨b1, o1, p1, -, r1⟩ := row_at hwr (i := j + 1) (x := bs w) (by rw [List.map_cons, List.getElem?_cons_succ, List.getElem?_map, hw]; rfl)
      have g1 : ((j + 1 : Nat) : Int) < ((ws.length + 1 : Nat) : Int) := by omega
      have hsl := sel_len (c := true) (ws := ws) (j := j)
      refine ⟨Int.le_refl _, g0, b0, o0, p0, bs w0, trivial, r0, onE (isE hcall) ?_⟩
      by_cases hj2 : j = 2
      · refine onE (beq_iff_eq.2 (by show ((j + 1 : Nat) : Int) = 3; omega)) ⟨((j + 1 + 1 : Nat) : Int), wi, j + 1, ⟨⟨?_, rfl⟩, ?_, Store.le_refl _⟩, ⟨hjl, ?_⟩, by show ws.length - (j + 1) < ws.length - j; omega⟩
        · repeat' first | exact trivial | exact rfl | refine And.intro ?_ ?_
        · subst hj2
          show [Res.row shI 2 _] = [Res.row shI 2 ((selC true ws (2 + 1)).map Txt.valOf)]
          rw [sel_skip hjl]
        · subst hj2
          show (selC true ws (2 + 1)).all Sc.okW = true
          rw [sel_skip hjl]; exact hall
      refine offE (beq_eq_false_iff_ne.2 (by show ¬ ((j + 1 : Nat) : Int) = 3; omega)) ?_
      refine ⟨j0, g1, b1, o1, p1, bs w, trivial, r1, ⟨_, rfl, rfl, rfl⟩, .inl ⟨_, _, _, number_spec S1 w (hfew w (List.mem_of_getElem? hw)), fun S2 y hS2 hy => ?_⟩⟩
      obtain ⟨yn, yb⟩ := y
      obtain ⟨hy1, hy2⟩ := hy
      have hy1 : yb = Sc.okW w := hy1
      cases hok : Sc.okW w with
      | false =>
        rw [hok] at hy1
        subst hy1
        refine onT ⟨rfl, ((p, l.length, c), 5), rfl, ?_⟩
        rw [call_bad hw hj2 hok]; exact ⟨hl1.le hS2, rfl⟩
      | true =>
        rw [hok] at hy1
        subst hy1
        have hyn : yn = Txt.valOf w := hy2 rfl
        subst hyn
        have hst := sel_next (c := true) hw (fun _ => hj2)
        refine onF ⟨[Txt.valOf w], ⟨rfl, rfl⟩, fun _ _ => trivial, by rw [List.length_map]; show ((selC true ws j).length + 1) * 8 ≤ 140737488355328; omega, ((j + 1 + 1 : Nat) : Int), wi, j + 1, ⟨⟨?_, rfl⟩, ?_, hS2⟩, ⟨hjl, by rw [hst, List.all_append, hall]; simp [hok]⟩, by show ws.length - (j + 1) < ws.length - j; omega⟩
        · repeat' first | exact trivial | exact rfl | refine And.intro ?_ ?_
        · show [Res.row shI 2 _] = [Res.row shI 2 ((selC true ws (j + 1)).map Txt.valOf)]
          rw [hst, List.map_append]; rfl
    · have hjl : j = ws.length := by
        have : ¬ ((j + 1 : Nat) : Int) < ((ws.length + 1 : Nat) : Int) := of_decide_eq_false h
        omega
      clear h
      subst hjl
      have h4' : 3 ≤ ws.length := by omega
      match ws, h4' with
      | a :: b :: nmw :: ar, _ =>
        have hsel : selC true (a :: b :: nmw :: ar) (a :: b :: nmw :: ar).length = a :: b :: ar := by
          unfold selC; rw [if_pos rfl, List.take_length]; rfl
        rw [hsel] at hall
        simp only [List.all_cons, Bool.and_eq_true] at hall
        obtain ⟨ka, kb, kr⟩ := hall
        have hRC : Rc.readC l (a :: b :: nmw :: ar) = Rc.callR l (Txt.valOf a) (Txt.valOf b) nmw (ar.map Txt.valOf) := by
          unfold Rc.readC; dsimp only; rw [if_pos (by rw [ka, kb, kr]; rfl)]
        rw [hRC]
        have hml : ((selC true (a :: b :: nmw :: ar) (a :: b :: nmw :: ar).length).map Txt.valOf) = Txt.valOf a :: Txt.valOf b :: ar.map Txt.valOf := by rw [hsel]; rfl
        have z1 : (0 : Int) ≤ 1 := by decide
        have z3 : (0 : Int) ≤ 3 := by decide
        have i1 : (0 : Int) < ((((selC true (a :: b :: nmw :: ar) (a :: b :: nmw :: ar).length).map Txt.valOf).length : Nat) : Int) := by rw [hml, List.length_cons]; omega
        have i2 : (1 : Int) < ((((selC true (a :: b :: nmw :: ar) (a :: b :: nmw :: ar).length).map Txt.valOf).length : Nat) : Int) := by rw [hml, List.length_cons, List.length_cons]; omega
        have i3 : 2 ≤ ((selC true (a :: b :: nmw :: ar) (a :: b :: nmw :: ar).length).map Txt.valOf).length := by rw [hml, List.length_cons, List.length_cons]; omega
        obtain ⟨b3, o3, p3, -, r3⟩ := row_at hwr (i := 3) rfl
        have g3 : (3 : Int) < (((a :: b :: nmw :: ar).length + 1 : Nat) : Int) := by simp; omega
        have hal : ar.length ≤ 800000 := by simp at hwl; omega
        have hnl : nmw.length ≤ 1000000 := hfew nmw (by simp)
        refine ⟨or47_17, [], oF47_17, by kernel_rfl, Int.le_refl _, i1, Txt.valOf a, congrArg (fun l => l[0]?) hml, z1, i2, Txt.valOf b, congrArg (fun l => l[1]?) hml, ?_⟩
        refine ⟨Int.le_refl _, g0, b0, o0, p0, bs w0, trivial, r0, onE (isE hcall) ?_⟩
        refine ⟨or47_19, [0], [], by kernel_rfl, z3, g3, b3, o3, p3, bs nmw, trivial, r3, by decide, i3, Nat.le_refl _, ⟨_, rfl, rfl, rfl⟩, .inl fun p5 c5 S5 hS5 hr5 hpf => ?_⟩
        have hn5 : ((selC true (a :: b :: nmw :: ar) (a :: b :: nmw :: ar).length).map Txt.valOf).length = ar.length + 2 := by rw [hml, List.length_cons, List.length_cons, List.length_map]
        have hNs : NsIs S5 (if c5 = Int.toNat 2 then p5 else p5.map fun p => addrAdd p (Int.toNat 2 * 1), ((selC true (a :: b :: nmw :: ar) (a :: b :: nmw :: ar).length).map Txt.valOf).length - Int.toNat 2, c5 - Int.toNat 2) (ar.map Txt.valOf) := by
          have hc5 : ar.length + 2 ≤ c5 := by rcases hpf.1 with ⟨_, h1, h2⟩ | ⟨g, _, h2⟩ <;> omega
          have hd := hr5.drop (c := c5) (k := 2) (sz := 1) (by rw [hn5]; exact hc5) rfl
          rw [hml] at hd
          refine ⟨?_, ?_, hd, ?_⟩
          · show _ - 2 = _; rw [hn5, List.length_map]; omega
          · show _ - 2 ≤ c5 - 2; omega
          · intro x hx
            obtain ⟨w, hw, rfl⟩ := List.mem_map.1 hx
            exact in_ok (List.all_eq_true.1 kr w hw)
        refine ⟨_, _, _, refCall_spec S5 (p, l.length, c) l (hl1.le hS5) hll (Txt.valOf a) (Txt.valOf b) (in_ok ka) (in_ok kb) nmw (by omega) (if c5 = Int.toNat 2 then p5 else p5.map fun p => addrAdd p (Int.toNat 2 * 1), ((selC true (a :: b :: nmw :: ar) (a :: b :: nmw :: ar).length).map Txt.valOf).length - Int.toNat 2, c5 - Int.toNat 2) (ar.map Txt.valOf) hNs (by rw [List.length_map]; omega), fun S6 y hS6 hy => ?_⟩
        exact ⟨rfl, y, rfl, hy⟩
  rw [if_neg hcall]
  by_cases ha : w0 = Rc.wAns
  · have nm : w0 ≠ Rc.wCom := by rw [ha]; decide
    rw [if_pos ha]
    refine onE (ntF (isN hcall)) ⟨Int.le_refl _, g0, b0, o0, p0, bs w0, trivial, r0, offE (ntT (isE ha)) (onF ⟨Int.le_refl _, g0, b0, o0, p0, bs w0, trivial, r0, offE (isN hcall) (onF ⟨Int.le_refl _, g0, b0, o0, p0, bs w0, trivial, r0, onE (isE ha) ?_⟩)⟩)⟩
    by_cases h4 : ws.length = 4
    rotate_left
    · refine onE (bne_iff_ne.2 (by show ¬ ((ws.length + 1 : Nat) : Int) = 5; omega)) (onT ⟨rfl, ((p, l.length, c), 5), rfl, ?_⟩)
      rw [readA_bad (.inl h4)]; exact ⟨hl1, rfl⟩
    refine offE (bne_eq_false_iff_eq.2 (by show ((ws.length + 1 : Nat) : Int) = 5; omega)) ⟨Int.le_refl _, g0, b0, o0, p0, bs w0, trivial, r0, offE (isN nm) (onF ?_)⟩
    refine ⟨[], [(7, shI, 2)], Nat, [9, 10] ++ List.range' 82 29, fun j => [(8, rI ((j + 1 : Nat) : Int))], fun j => [.row shI 2 ((selC false ws j).map Txt.valOf)], fun _ => S1, fun j => j ≤ ws.length ∧ (selC false ws j).all Sc.okW = true, fun j => ws.length - j, ?_⟩
    refine And.intro (Exists.intro 0 (And.intro (And.intro (And.intro ?_ rfl) (And.intro rfl (Store.le_refl _))) ⟨Nat.zero_le _, rfl⟩)) ?_
    · repeat' first | exact trivial | exact rfl | refine And.intro ?_ ?_
    rintro j ⟨hj, hall⟩
    have hj : j ≤ ws.length := hj
    have hall : (selC false ws j).all Sc.okW = true := hall
    have j0 : (0 : Int) ≤ ((j + 1 : Nat) : Int) := Int.natCast_nonneg _
    have wi : IntKind.i64.wrap (((j + 1 : Nat) : Int) + 1) = ((j + 1 + 1 : Nat) : Int) := wrap_i64 (by omega) (by omega)
    refine And.intro (fun h => ?_) (fun h => ?_)
    · have hjl : j < ws.length := by
        have : ((j + 1 : Nat) : Int) < ((ws.length + 1 : Nat) : Int) := of_decide_eq_true h
        omega
      clear h
      obtain ⟨w, hw⟩ : ∃ w, ws[j]? = some w := ⟨_, List.getElem?_eq_getElem hjl⟩
      obtain ⟨b1, o1, p1, -, r1⟩ := row_at hwr (i := j + 1) (x := bs w) (by rw [List.map_cons, List.getElem?_cons_succ, List.getElem?_map, hw]; rfl)
      have g1 : ((j + 1 : Nat) : Int) < ((ws.length + 1 : Nat) : Int) := by omega
      have hsl := sel_len (c := false) (ws := ws) (j := j)
      refine ⟨Int.le_refl _, g0, b0, o0, p0, bs w0, trivial, r0, offE (isN hcall) (onF ?_)⟩
      refine ⟨j0, g1, b1, o1, p1, bs w, trivial, r1, ⟨_, rfl, rfl, rfl⟩, .inl ⟨_, _, _, number_spec S1 w (hfew w (List.mem_of_getElem? hw)), fun S2 y hS2 hy => ?_⟩⟩
      obtain ⟨yn, yb⟩ := y
      obtain ⟨hy1, hy2⟩ := hy
      have hy1 : yb = Sc.okW w := hy1
      cases hok : Sc.okW w with
      | false =>
        rw [hok] at hy1
        subst hy1
        refine onT ⟨rfl, ((p, l.length, c), 5), rfl, ?_⟩
        rw [readA_bad (.inr (all_bad hw hok))]; exact ⟨hl1.le hS2, rfl⟩
      | true =>
        rw [hok] at hy1
        subst hy1
        have hyn : yn = Txt.valOf w := hy2 rfl
        subst hyn
        have hst := sel_next (c := false) hw (fun q => by cases q)
        refine onF ⟨[Txt.valOf w], ⟨rfl, rfl⟩, fun _ _ => trivial, by rw [List.length_map]; show ((selC false ws j).length + 1) * 8 ≤ 140737488355328; omega, ((j + 1 + 1 : Nat) : Int), wi, j + 1, ⟨⟨?_, rfl⟩, ?_, hS2⟩, ⟨hjl, by rw [hst, List.all_append, hall]; simp [hok]⟩, by show ws.length - (j + 1) < ws.length - j; omega⟩
        · repeat' first | exact trivial | exact rfl | refine And.intro ?_ ?_
        · show [Res.row shI 2 _] = [Res.row shI 2 ((selC false ws (j + 1)).map Txt.valOf)]
          rw [hst, List.map_append]; rfl
    · have hjl : j = ws.length := by
        have : ¬ ((j + 1 : Nat) : Int) < ((ws.length + 1 : Nat) : Int) := of_decide_eq_false h
        omega
      clear h
      subst hjl
      match ws, h4 with
      | [a, b, cw, d], _ =>
        have hall : ([a, b, cw, d]).all Sc.okW = true := hall
        simp only [List.all_cons, List.all_nil, Bool.and_eq_true, Bool.and_true] at hall
        obtain ⟨ka, kb, kc, kd⟩ := hall
        have hRA : Rc.readA l [a, b, cw, d] = if Txt.valOf cw < 0 ∨ 255 < Txt.valOf cw then (l, 5) else Rc.ansR l (Txt.valOf a) (Txt.valOf b) (Txt.valOf cw) (Txt.valOf d) := by
          unfold Rc.readA; dsimp only; rw [if_pos (by rw [ka, kb, kc, kd]; rfl)]
        rw [hRA]
        have z1 : (0 : Int) ≤ 1 := by decide
        have z2 : (0 : Int) ≤ 2 := by decide
        have z3 : (0 : Int) ≤ 3 := by decide
        have q0 : (0 : Int) < ((4 : Nat) : Int) := by decide
        have q1 : (1 : Int) < ((4 : Nat) : Int) := by decide
        have q2 : (2 : Int) < ((4 : Nat) : Int) := by decide
        have q3 : (3 : Int) < ((4 : Nat) : Int) := by decide
        refine ⟨or47_17, [], oF47_17, by kernel_rfl, Int.le_refl _, q0, Txt.valOf a, rfl, z1, q1, Txt.valOf b, rfl, ?_⟩
        refine ⟨Int.le_refl _, g0, b0, o0, p0, bs w0, trivial, r0, offE (isN hcall) ⟨Int.le_refl _, g0, b0, o0, p0, bs w0, trivial, r0, onE (isE ha) ⟨z2, q2, Txt.valOf cw, rfl, ?_⟩⟩⟩
        by_cases hlo : Txt.valOf cw < 0
        · refine onE (decide_eq_true hlo) (onT ⟨rfl, ((p, l.length, c), 5), rfl, ?_⟩)
          rw [if_pos (.inl hlo)]; exact ⟨hl1, rfl⟩
        refine offE (decide_eq_false hlo) ⟨z2, q2, Txt.valOf cw, rfl, ?_⟩
        by_cases hhi : Txt.valOf cw > 255
        · refine onE (decide_eq_true hhi) ⟨rfl, ((p, l.length, c), 5), rfl, ?_⟩
          rw [if_pos (.inr hhi)]; exact ⟨hl1, rfl⟩
        refine offE (decide_eq_false hhi) ?_
        rw [if_neg (show ¬ (Txt.valOf cw < 0 ∨ 255 < Txt.valOf cw) by omega)]
        refine ⟨or47_23, [], oF47_23, by kernel_rfl, z2, q2, Txt.valOf cw, rfl, z3, q3, Txt.valOf d, rfl, ⟨_, rfl, rfl, rfl⟩, .inl ⟨_, _, _, refAnswer_spec S1 (p, l.length, c) l hl1 hll (Txt.valOf a) (Txt.valOf cw) (Txt.valOf d) (in_ok ka) (in_ok kc) (in_ok kd), fun S3 y hS3 hy => ?_⟩⟩
        obtain ⟨⟨yp, yn, yc⟩, e⟩ := y
        have hy1 : LIs S3 (yp, yn, yc) (Rc.answerR l (Txt.valOf a) (Txt.valOf cw) (Txt.valOf d)).1 := hy.1
        have hy2 : e = (Rc.answerR l (Txt.valOf a) (Txt.valOf cw) (Txt.valOf d)).2 := hy.2
        by_cases he : e = 0
        · have hok0 := hy2.symm.trans he
          have hadd : (Rc.answerR l (Txt.valOf a) (Txt.valOf cw) (Txt.valOf d)).1 = l ++ [⟨1, Txt.valOf a, Rc.numAt l (Rc.openR l (Txt.valOf a)), [], [], Txt.valOf cw, Txt.valOf d⟩] := by
            rcases Rc.answer_cases l (Txt.valOf a) (Txt.valOf cw) (Txt.valOf d) with q | q
            · exact absurd hok0 q.2
            · rw [q]
          have hy1' := hy1
          rw [hadd] at hy1'
          obtain ⟨bl, ol, xn, pl, rl, hxn, hyn⟩ := last_at hy1'
          have hyn : yn = l.length + 1 := hyn
          have hxn : xn = Rc.numAt l (Rc.openR l (Txt.valOf a)) := hxn
          refine onE (beq_iff_eq.2 he) ⟨Int.natCast_nonneg _, by show ((l.length : Nat) : Int) < ((yn : Nat) : Int); omega, bl, ol, pl, xn, trivial, rl, ?_⟩
          by_cases hnum : xn = Txt.valOf b
          · refine offE (bne_eq_false_iff_eq.2 hnum) ⟨rfl, ((yp, yn, yc), e), rfl, ?_⟩
            unfold Rc.ansR; rw [if_neg (fun q => q.2 (hxn.symm.trans hnum))]; exact ⟨hy1, hy2⟩
          · refine onE (bne_iff_ne.2 hnum) ⟨rfl, ((p, l.length, c), 14), rfl, ?_⟩
            unfold Rc.ansR; rw [if_pos ⟨hok0, fun q => hnum (hxn.trans q)⟩]; exact ⟨hl1.le hS3, rfl⟩
        · refine offE (beq_eq_false_iff_ne.2 he) (onF ⟨rfl, ((yp, yn, yc), e), rfl, ?_⟩)
          unfold Rc.ansR; rw [if_neg (fun q => he (hy2.trans q.1))]; exact ⟨hy1, hy2⟩
  rw [if_neg ha]
  by_cases hm : w0 = Rc.wCom
  · rw [if_pos hm]
    refine onE (ntF (isN hcall)) ⟨Int.le_refl _, g0, b0, o0, p0, bs w0, trivial, r0, onE (ntF (isN ha)) ⟨Int.le_refl _, g0, b0, o0, p0, bs w0, trivial, r0, offE (ntT (isE hm)) ⟨Int.le_refl _, g0, b0, o0, p0, bs w0, trivial, r0, offE (isN hcall) (onF ⟨Int.le_refl _, g0, b0, o0, p0, bs w0, trivial, r0, offE (isN ha) (onF ⟨Int.le_refl _, g0, b0, o0, p0, bs w0, trivial, r0, onE (isE hm) ?_⟩)⟩)⟩⟩⟩
    by_cases h4 : ws.length = 2
    rotate_left
    · refine onE (bne_iff_ne.2 (by show ¬ ((ws.length + 1 : Nat) : Int) = 3; omega)) ⟨rfl, ((p, l.length, c), 5), rfl, ?_⟩
      rw [readM_bad (.inl h4)]; exact ⟨hl1, rfl⟩
    refine offE (bne_eq_false_iff_eq.2 (by show ((ws.length + 1 : Nat) : Int) = 3; omega)) ?_
    refine ⟨[], [(7, shI, 2)], Nat, [9, 10] ++ List.range' 82 29, fun j => [(8, rI ((j + 1 : Nat) : Int))], fun j => [.row shI 2 ((selC false ws j).map Txt.valOf)], fun _ => S1, fun j => j ≤ ws.length ∧ (selC false ws j).all Sc.okW = true, fun j => ws.length - j, ?_⟩
    refine And.intro (Exists.intro 0 (And.intro (And.intro (And.intro ?_ rfl) (And.intro rfl (Store.le_refl _))) ⟨Nat.zero_le _, rfl⟩)) ?_
    · repeat' first | exact trivial | exact rfl | refine And.intro ?_ ?_
    rintro j ⟨hj, hall⟩
    have hj : j ≤ ws.length := hj
    have hall : (selC false ws j).all Sc.okW = true := hall
    have j0 : (0 : Int) ≤ ((j + 1 : Nat) : Int) := Int.natCast_nonneg _
    have wi : IntKind.i64.wrap (((j + 1 : Nat) : Int) + 1) = ((j + 1 + 1 : Nat) : Int) := wrap_i64 (by omega) (by omega)
    refine And.intro (fun h => ?_) (fun h => ?_)
    · have hjl : j < ws.length := by
        have : ((j + 1 : Nat) : Int) < ((ws.length + 1 : Nat) : Int) := of_decide_eq_true h
        omega
      clear h
      obtain ⟨w, hw⟩ : ∃ w, ws[j]? = some w := ⟨_, List.getElem?_eq_getElem hjl⟩
      obtain ⟨b1, o1, p1, -, r1⟩ := row_at hwr (i := j + 1) (x := bs w) (by rw [List.map_cons, List.getElem?_cons_succ, List.getElem?_map, hw]; rfl)
      have g1 : ((j + 1 : Nat) : Int) < ((ws.length + 1 : Nat) : Int) := by omega
      have hsl := sel_len (c := false) (ws := ws) (j := j)
      refine ⟨Int.le_refl _, g0, b0, o0, p0, bs w0, trivial, r0, offE (isN hcall) (onF ?_)⟩
      refine ⟨j0, g1, b1, o1, p1, bs w, trivial, r1, ⟨_, rfl, rfl, rfl⟩, .inl ⟨_, _, _, number_spec S1 w (hfew w (List.mem_of_getElem? hw)), fun S2 y hS2 hy => ?_⟩⟩
      obtain ⟨yn, yb⟩ := y
      obtain ⟨hy1, hy2⟩ := hy
      have hy1 : yb = Sc.okW w := hy1
      cases hok : Sc.okW w with
      | false =>
        rw [hok] at hy1
        subst hy1
        refine onT ⟨rfl, ((p, l.length, c), 5), rfl, ?_⟩
        rw [readM_bad (.inr (all_bad hw hok))]; exact ⟨hl1.le hS2, rfl⟩
      | true =>
        rw [hok] at hy1
        subst hy1
        have hyn : yn = Txt.valOf w := hy2 rfl
        subst hyn
        have hst := sel_next (c := false) hw (fun q => by cases q)
        refine onF ⟨[Txt.valOf w], ⟨rfl, rfl⟩, fun _ _ => trivial, by rw [List.length_map]; show ((selC false ws j).length + 1) * 8 ≤ 140737488355328; omega, ((j + 1 + 1 : Nat) : Int), wi, j + 1, ⟨⟨?_, rfl⟩, ?_, hS2⟩, ⟨hjl, by rw [hst, List.all_append, hall]; simp [hok]⟩, by show ws.length - (j + 1) < ws.length - j; omega⟩
        · repeat' first | exact trivial | exact rfl | refine And.intro ?_ ?_
        · show [Res.row shI 2 _] = [Res.row shI 2 ((selC false ws (j + 1)).map Txt.valOf)]
          rw [hst, List.map_append]; rfl
    · have hjl : j = ws.length := by
        have : ¬ ((j + 1 : Nat) : Int) < ((ws.length + 1 : Nat) : Int) := of_decide_eq_false h
        omega
      clear h
      subst hjl
      match ws, h4 with
      | [a, b], _ =>
        have hall : ([a, b]).all Sc.okW = true := hall
        simp only [List.all_cons, List.all_nil, Bool.and_eq_true, Bool.and_true] at hall
        obtain ⟨ka, kb⟩ := hall
        have hRM : Rc.readM l [a, b] = Rc.comR l (Txt.valOf a) (Txt.valOf b) := by
          unfold Rc.readM; dsimp only; rw [if_pos (by rw [ka, kb]; rfl)]
        rw [hRM]
        have z1 : (0 : Int) ≤ 1 := by decide
        have q0 : (0 : Int) < ((2 : Nat) : Int) := by decide
        have q1 : (1 : Int) < ((2 : Nat) : Int) := by decide
        refine ⟨or47_17, [], oF47_17, by kernel_rfl, Int.le_refl _, q0, Txt.valOf a, rfl, z1, q1, Txt.valOf b, rfl, ?_⟩
        refine ⟨Int.le_refl _, g0, b0, o0, p0, bs w0, trivial, r0, offE (isN hcall) ⟨Int.le_refl _, g0, b0, o0, p0, bs w0, trivial, r0, offE (isN ha) ⟨⟨_, rfl, rfl, rfl⟩, .inl ⟨_, _, _, refCommit_spec S1 (p, l.length, c) l hl1 hll (Txt.valOf a) (in_ok ka), fun S3 y hS3 hy => ?_⟩⟩⟩⟩
        obtain ⟨⟨yp, yn, yc⟩, e⟩ := y
        have hy1 : LIs S3 (yp, yn, yc) (Rc.commitR l (Txt.valOf a)).1 := hy.1
        have hy2 : e = (Rc.commitR l (Txt.valOf a)).2 := hy.2
        by_cases he : e = 0
        · have hok0 := hy2.symm.trans he
          have hadd : (Rc.commitR l (Txt.valOf a)).1 = l ++ [⟨2, Txt.valOf a, Rc.numAt l (Rc.openR l (Txt.valOf a)), [], [], 0, 0⟩] := by
            rcases Rc.commit_cases l (Txt.valOf a) with q | q
            · exact absurd hok0 q.2
            · rw [q]
          have hy1' := hy1
          rw [hadd] at hy1'
          obtain ⟨bl, ol, xn, pl, rl, hxn, hyn⟩ := last_at hy1'
          have hyn : yn = l.length + 1 := hyn
          have hxn : xn = Rc.numAt l (Rc.openR l (Txt.valOf a)) := hxn
          refine onE (beq_iff_eq.2 he) ⟨Int.natCast_nonneg _, by show ((l.length : Nat) : Int) < ((yn : Nat) : Int); omega, bl, ol, pl, xn, trivial, rl, ?_⟩
          by_cases hnum : xn = Txt.valOf b
          · refine offE (bne_eq_false_iff_eq.2 hnum) ⟨rfl, ((yp, yn, yc), e), rfl, ?_⟩
            unfold Rc.comR; rw [if_neg (fun q => q.2 (hxn.symm.trans hnum))]; exact ⟨hy1, hy2⟩
          · refine onE (bne_iff_ne.2 hnum) ⟨rfl, ((p, l.length, c), 14), rfl, ?_⟩
            unfold Rc.comR; rw [if_pos ⟨hok0, fun q => hnum (hxn.trans q)⟩]; exact ⟨hl1.le hS3, rfl⟩
        · refine offE (beq_eq_false_iff_ne.2 he) (onF ⟨rfl, ((yp, yn, yc), e), rfl, ?_⟩)
          unfold Rc.comR; rw [if_neg (fun q => he (hy2.trans q.1))]; exact ⟨hy1, hy2⟩
  rw [if_neg hm]
  exact onE (ntF (isN hcall)) ⟨Int.le_refl _, g0, b0, o0, p0, bs w0, trivial, r0, onE (ntF (isN ha)) ⟨Int.le_refl _, g0, b0, o0, p0, bs w0, trivial, r0, onE (ntF (isN hm)) (onT (onT (onT ⟨rfl, ((p, l.length, c), 5), rfl, hl1, rfl⟩)))⟩⟩
end Go.Proofs.YtpeehenohdlfdaaGreatDoor
