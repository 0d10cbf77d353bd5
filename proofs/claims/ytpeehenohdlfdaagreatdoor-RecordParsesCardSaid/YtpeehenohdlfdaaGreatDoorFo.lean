/- law57: the program's read and Parse. -/
import Derived.Test.YtpeehenohdlfdaaGreatDoorFn
namespace Go.Proofs.YtpeehenohdlfdaaGreatDoor
open Go Go.Vc Go.Sort
set_option maxRecDepth 100000
set_option maxHeartbeats 8000000

theorem readR_of {l : List Rc.Ev} {s w0 : Sc.Bs} {ws : List Sc.Bs} (hc : s ≠ Rc.wCra) (h : Txt.pieces 32 s = w0 :: ws) : Rc.readR l s = if w0 = Rc.wCall then Rc.readC l ws else if w0 = Rc.wAns then Rc.readA l ws else if w0 = Rc.wCom then Rc.readM l ws else (l, 5) := by
  unfold Rc.readR
  rw [if_neg hc, h]; rfl
theorem words_of {S : Store} {q : Hd} {s : Sc.Bs} (hs : s.length ≤ 1000000) (h : q.2.1 = (wordsR s).length ∧ q.2.1 ≤ q.2.2 ∧ RowRd S q.1 .str (wordsR s)) : WsIs S q (Txt.pieces 32 s) :=
  ⟨by rw [h.1]; unfold wordsR; rw [List.length_map], h.2.1, h.2.2, fun w hw => by have := Txt.pieces_len hw; omega⟩
theorem read_spec (S : Store) (hL : Lw S) (x : Hx) (l : List Rc.Ev) (hx : HIs S x l) (s : Sc.Bs) (hs : s.length ≤ 800000) : Pure Tryz.prog 46 S [vH x, .string (bs s)] (A := Hx × Int) rHE (fun S' y => HPost (Rc.readR l s) S' y) := by
  refine pure_vc agrees Tryz.func46 rfl rfl (fun S S' q hle h => h.le hle) ?_
  refine ⟨⟨_, rfl, rfl, rfl⟩, .inl ⟨_, _, _, split_spec S hL s (by omega), fun S1 wq hS1 hwq => ?_⟩⟩
  have hx1 := hx.le hS1
  have hL1 := hL.le hS1
  have hw := words_of (by omega) hwq
  have hcount := Txt.pieces_count 32 s
  by_cases hc : s = Rc.wCra
  · refine onE (isE hc) ⟨⟨_, rfl, rfl, rfl⟩, .inl ⟨_, _, _, full_spec S1 x l hx1, fun S2 _ hS2 _ => ?_⟩⟩
    have hx2 := hx1.le hS2
    by_cases h5 : 1024 ≤ l.length
    · refine onE (decide_eq_true h5) ⟨rfl, (x, 9), rfl, ?_⟩
      unfold Rc.readR; rw [if_pos hc, if_pos h5]; exact ⟨hx2, rfl⟩
    · refine offE (decide_eq_false h5) ⟨⟨_, rfl, rfl, rfl⟩, .inl ⟨_, _, _, crash_spec S2 x l hx2, fun S3 y hS3 hy => ⟨rfl, (y, 0), rfl, ?_⟩⟩⟩
      unfold Rc.readR; rw [if_pos hc, if_neg h5]
      unfold Rc.crashR at hy; rw [if_neg h5] at hy
      exact ⟨hy, rfl⟩
  refine offE (isN hc) ?_
  obtain ⟨w0, ws, hW⟩ : ∃ w0 ws, Txt.pieces 32 s = w0 :: ws := by
    cases h : Txt.pieces 32 s with
    | nil => exact absurd h (Txt.pieces_ne 32 s)
    | cons a b => exact ⟨a, b, rfl⟩
  have hR := readR_of (l := l) hc hW
  rw [hW] at hw hcount
  rw [hR]
  obtain ⟨wp, wn, wc⟩ := wq
  have hwn : wn = ws.length + 1 := hw.len
  subst hwn
  have hwc : ws.length + 1 ≤ wc := hw.cap
  have hwr : RowRd S1 wp .str ((w0 :: ws).map bs) := hw.row
  have hwl : ws.length ≤ 800000 := by simp at hcount; omega
  have hdr := ws_drop hw 1 ws.length (by simp; omega)
  rw [show ((w0 :: ws).drop 1).take ws.length = ws from List.take_length] at hdr
  obtain ⟨b0, o0, p0, -, r0⟩ := row_at hwr (i := 0) rfl
  have g0 : (0 : Int) < ((ws.length + 1 : Nat) : Int) := by omega
  refine ⟨Int.le_refl _, g0, b0, o0, p0, bs w0, trivial, r0, ?_⟩
  by_cases hcall : w0 = Rc.wCall
  · refine onE (isE hcall) ?_
    by_cases h4 : 3 ≤ ws.length
    · refine onE (decide_eq_true (by show ((ws.length + 1 : Nat) : Int) ≥ 4; omega)) ?_
      match ws, h4 with
      | a :: b :: nm :: ar, _ =>
        refine ⟨⟨_, rfl, rfl, rfl⟩, .inl ⟨_, _, _, readCall_spec S1 hL1 x l hx1 (wp, (a :: b :: nm :: ar).length + 1, wc) w0 a b nm ar hw (by simp at hwl; omega), fun S2 y hS2 hy => ⟨rfl, y, rfl, ?_⟩⟩⟩
        rw [if_pos hcall]; exact hy
    · refine offE (decide_eq_false (by show ¬ ((ws.length + 1 : Nat) : Int) ≥ 4; omega)) ?_
      have hres : (if w0 = Rc.wCall then Rc.readC l ws else if w0 = Rc.wAns then Rc.readA l ws else if w0 = Rc.wCom then Rc.readM l ws else (l, 5)) = (l, 5) := by rw [if_pos hcall, readC_bad (by omega)]
      have na : w0 ≠ Rc.wAns := by rw [hcall]; decide
      have nm : w0 ≠ Rc.wCom := by rw [hcall]; decide
      refine ⟨by decide, by show 1 ≤ ws.length + 1; omega, by show ws.length + 1 ≤ wc; omega, ⟨_, rfl, rfl, rfl⟩, .inl ⟨_, _, _, whole_spec S1 hL1 (if wc = Int.toNat 1 then wp else wp.map fun p => addrAdd p (Int.toNat 1 * 1), ws.length + 1 - Int.toNat 1, wc - Int.toNat 1) ws hdr (by omega), fun S2 y2 hS2 hy2 => ?_⟩⟩
      obtain ⟨q2, b2⟩ := y2
      have hx2 := hx1.le hS2
      have hfin : HPost (if w0 = Rc.wCall then Rc.readC l ws else if w0 = Rc.wAns then Rc.readA l ws else if w0 = Rc.wCom then Rc.readM l ws else (l, 5)) S2 (x, 5) := by rw [hres]; exact ⟨hx2, rfl⟩
      have r0' := Store.rd_le hS2 r0
      cases b2 with
      | false => exact onT ⟨rfl, (x, 5), rfl, hfin⟩
      | true => exact onF ⟨Int.le_refl _, g0, b0, o0, p0, bs w0, trivial, r0', offE (isN na) (onF (onF (onF ⟨Int.le_refl _, g0, b0, o0, p0, bs w0, trivial, r0', offE (isN nm) (onF ⟨rfl, (x, 5), rfl, hfin⟩)⟩)))⟩
  refine offE (isN hcall) (onF ?_)
  rw [if_neg hcall]
  refine ⟨by decide, by show 1 ≤ ws.length + 1; omega, by show ws.length + 1 ≤ wc; omega, ⟨_, rfl, rfl, rfl⟩, .inl ⟨_, _, _, whole_spec S1 hL1 (if wc = Int.toNat 1 then wp else wp.map fun p => addrAdd p (Int.toNat 1 * 1), ws.length + 1 - Int.toNat 1, wc - Int.toNat 1) ws hdr (by omega), fun S2 y2 hS2 hy2 => ?_⟩⟩
  obtain ⟨q2, b2⟩ := y2
  have hx2 := hx1.le hS2
  have hL2 := hL1.le hS2
  have r0' := Store.rd_le hS2 r0
  cases hk : ws.all Sc.okW with
  | false =>
    obtain rfl := ns_of_no hy2 hk
    refine onT ⟨rfl, (x, 5), rfl, ?_⟩
    have : (if w0 = Rc.wAns then Rc.readA l ws else if w0 = Rc.wCom then Rc.readM l ws else (l, 5)) = (l, 5) := by
      rw [readA_bad (.inr hk), readM_bad (.inr hk)]; split <;> first | rfl | (split <;> rfl)
    rw [this]; exact ⟨hx2, rfl⟩
  | true =>
    obtain ⟨rfl, hns⟩ := ns_of_ok hy2 hk
    obtain ⟨np, nn, nc⟩ := q2
    have hnn : nn = ws.length := by have := hns.len; rw [List.length_map] at this; exact this
    subst hnn
    have hnr : RowRd S2 np shI (ws.map Txt.valOf) := hns.row
    refine onF ⟨Int.le_refl _, g0, b0, o0, p0, bs w0, trivial, r0', ?_⟩
    by_cases ha : w0 = Rc.wAns
    · refine onE (isE ha) ?_
      have nm : w0 ≠ Rc.wCom := by rw [ha]; decide
      rw [if_pos ha]
      by_cases h4 : ws.length = 4
      · refine onE (beq_iff_eq.2 (by show ((ws.length : Nat) : Int) = 4; omega)) ?_
        match ws, h4 with
        | [a, b, c, d], _ =>
          have hk4 : Sc.okW a = true ∧ Sc.okW b = true ∧ Sc.okW c = true ∧ Sc.okW d = true := by simpa using hk
          obtain ⟨ka, kb, kc, kd⟩ := hk4
          have hRA : Rc.readA l [a, b, c, d] = if Txt.valOf c < 0 ∨ 255 < Txt.valOf c then (l, 5) else Rc.ansR l (Txt.valOf a) (Txt.valOf b) (Txt.valOf c) (Txt.valOf d) := by
            unfold Rc.readA; dsimp only; rw [if_pos (by rw [ka, kb, kc, kd]; rfl)]
          rw [hRA]
          obtain ⟨b1, o1, p1, -, r1⟩ := row_at hnr (i := 0) rfl
          obtain ⟨b2, o2, p2, -, r2⟩ := row_at hnr (i := 1) rfl
          obtain ⟨b3, o3, p3, -, r3⟩ := row_at hnr (i := 2) rfl
          obtain ⟨b4, o4, p4, -, r4⟩ := row_at hnr (i := 3) rfl
          have q0 : (0 : Int) < ((4 : Nat) : Int) := by decide
          have q1 : (1 : Int) < ((4 : Nat) : Int) := by decide
          have q2 : (2 : Int) < ((4 : Nat) : Int) := by decide
          have q3 : (3 : Int) < ((4 : Nat) : Int) := by decide
          have z1 : (0 : Int) ≤ 1 := by decide
          have z2 : (0 : Int) ≤ 2 := by decide
          have z3 : (0 : Int) ≤ 3 := by decide
          refine ⟨z2, q2, b3, o3, p3, Txt.valOf c, trivial, r3, ?_⟩
          by_cases hlo : Txt.valOf c < 0
          · refine offE (decide_eq_false (by show ¬ Txt.valOf c ≥ 0; omega)) (onF ⟨Int.le_refl _, g0, b0, o0, p0, bs w0, trivial, r0', offE (isN nm) (onF ⟨rfl, (x, 5), rfl, ?_⟩)⟩)
            rw [if_pos (.inl hlo)]; exact ⟨hx2, rfl⟩
          refine onE (decide_eq_true (by show Txt.valOf c ≥ 0; omega)) ⟨z2, q2, b3, o3, p3, Txt.valOf c, trivial, r3, ?_⟩
          by_cases hhi : Txt.valOf c ≤ 255
          rotate_left
          · refine offE (decide_eq_false hhi) ⟨Int.le_refl _, g0, b0, o0, p0, bs w0, trivial, r0', offE (isN nm) (onF ⟨rfl, (x, 5), rfl, ?_⟩)⟩
            rw [if_pos (.inr (by omega))]; exact ⟨hx2, rfl⟩
          refine onE (decide_eq_true hhi) ?_
          rw [if_neg (show ¬ (Txt.valOf c < 0 ∨ 255 < Txt.valOf c) by omega)]
          have hsp := answer_spec S2 x l hx2 (Txt.valOf a) (Txt.valOf c) (Txt.valOf d) (in_ok ka) (in_ok kc) (in_ok kd)
          refine ⟨or46_11, [2], oF46_11, by kernel_rfl, Int.le_refl _, q0, b1, o1, p1, Txt.valOf a, trivial, r1, z2, q2, b3, o3, p3, Txt.valOf c, trivial, r3, z3, q3, b4, o4, p4, Txt.valOf d, trivial, r4, And.intro ?_ (And.intro ?_ trivial)⟩
          all_goals
            refine ⟨⟨_, rfl, rfl, rfl⟩, .inl ⟨_, _, _, hsp, fun S3 y hS3 hy => ?_⟩⟩
            obtain ⟨y1, e⟩ := y
            have hy1 : HIs S3 y1 (Rc.answerR l (Txt.valOf a) (Txt.valOf c) (Txt.valOf d)).1 := hy.1
            have hy2 : e = (Rc.answerR l (Txt.valOf a) (Txt.valOf c) (Txt.valOf d)).2 := hy.2
            refine ⟨or46_12, [], oF46_12, by kernel_rfl, ?_⟩
            by_cases he : e = 0
            · obtain ⟨cc, hcc⟩ := ans_open (hy2.symm.trans he)
              have hmt := matched_spec S3 x l (hx2.le hS3) (Txt.valOf a) (Txt.valOf b)
              rw [is_num hcc] at hmt
              refine onE (beq_iff_eq.2 he) ⟨Int.le_refl _, q0, b1, o1, p1, Txt.valOf a, trivial, Store.rd_le hS3 r1, z1, q1, b2, o2, p2, Txt.valOf b, trivial, Store.rd_le hS3 r2, ⟨_, rfl, rfl, rfl⟩, .inl ⟨_, _, _, hmt, fun S4 _ hS4 _ => ?_⟩⟩
              by_cases hnum : Rc.numAt l (Rc.openR l (Txt.valOf a)) = Txt.valOf b
              · refine offE (ntT (decide_eq_true hnum)) ⟨rfl, (y1, e), rfl, ?_⟩
                unfold Rc.ansR; rw [if_neg (fun q => q.2 hnum)]; exact ⟨hy1.le hS4, hy2⟩
              · refine onE (ntF (decide_eq_false hnum)) ⟨rfl, (x, 14), rfl, ?_⟩
                unfold Rc.ansR; rw [if_pos ⟨hy2.symm.trans he, hnum⟩]; exact ⟨(hx2.le hS3).le hS4, rfl⟩
            · refine offE (beq_eq_false_iff_ne.2 he) (onF ⟨rfl, (y1, e), rfl, ?_⟩)
              unfold Rc.ansR; rw [if_neg (fun q => he (hy2.trans q.1))]; exact ⟨hy1, hy2⟩
      · refine offE (beq_eq_false_iff_ne.2 (by show ¬ ((ws.length : Nat) : Int) = 4; omega)) (onF (onF ⟨Int.le_refl _, g0, b0, o0, p0, bs w0, trivial, r0', offE (isN nm) (onF ⟨rfl, (x, 5), rfl, ?_⟩)⟩))
        rw [readA_bad (.inl h4)]; exact ⟨hx2, rfl⟩
    · refine offE (isN ha) (onF (onF (onF ⟨Int.le_refl _, g0, b0, o0, p0, bs w0, trivial, r0', ?_⟩)))
      rw [if_neg ha]
      by_cases hm : w0 = Rc.wCom
      rotate_left
      · refine offE (isN hm) (onF ⟨rfl, (x, 5), rfl, ?_⟩)
        rw [if_neg hm]; exact ⟨hx2, rfl⟩
      rw [if_pos hm]
      refine onE (isE hm) ?_
      by_cases h2 : ws.length = 2
      · refine onE (beq_iff_eq.2 (by show ((ws.length : Nat) : Int) = 2; omega)) ?_
        match ws, h2 with
        | [a, b], _ =>
          have hk4 : Sc.okW a = true ∧ Sc.okW b = true := by simpa using hk
          obtain ⟨ka, kb⟩ := hk4
          have hRM : Rc.readM l [a, b] = Rc.comR l (Txt.valOf a) (Txt.valOf b) := by
            unfold Rc.readM; dsimp only; rw [if_pos (by rw [ka, kb]; rfl)]
          rw [hRM]
          obtain ⟨b1, o1, p1, -, r1⟩ := row_at hnr (i := 0) rfl
          obtain ⟨b2, o2, p2, -, r2⟩ := row_at hnr (i := 1) rfl
          have q0 : (0 : Int) < ((2 : Nat) : Int) := by decide
          have q1 : (1 : Int) < ((2 : Nat) : Int) := by decide
          have z1 : (0 : Int) ≤ 1 := by decide
          have hsp := commit_spec S2 x l hx2 (Txt.valOf a) (in_ok ka)
          refine ⟨or46_16, [2], oF46_16, by kernel_rfl, Int.le_refl _, q0, b1, o1, p1, Txt.valOf a, trivial, r1, And.intro ?_ (And.intro ?_ trivial)⟩
          all_goals
            refine ⟨⟨_, rfl, rfl, rfl⟩, .inl ⟨_, _, _, hsp, fun S3 y hS3 hy => ?_⟩⟩
            obtain ⟨y1, e⟩ := y
            have hy1 : HIs S3 y1 (Rc.commitR l (Txt.valOf a)).1 := hy.1
            have hy2 : e = (Rc.commitR l (Txt.valOf a)).2 := hy.2
            refine ⟨or46_17, [], oF46_17, by kernel_rfl, ?_⟩
            by_cases he : e = 0
            · obtain ⟨cc, hcc⟩ := com_open (hy2.symm.trans he)
              have hmt := matched_spec S3 x l (hx2.le hS3) (Txt.valOf a) (Txt.valOf b)
              rw [is_num hcc] at hmt
              refine onE (beq_iff_eq.2 he) ⟨Int.le_refl _, q0, b1, o1, p1, Txt.valOf a, trivial, Store.rd_le hS3 r1, z1, q1, b2, o2, p2, Txt.valOf b, trivial, Store.rd_le hS3 r2, ⟨_, rfl, rfl, rfl⟩, .inl ⟨_, _, _, hmt, fun S4 _ hS4 _ => ?_⟩⟩
              by_cases hnum : Rc.numAt l (Rc.openR l (Txt.valOf a)) = Txt.valOf b
              · refine offE (ntT (decide_eq_true hnum)) ⟨rfl, (y1, e), rfl, ?_⟩
                unfold Rc.comR; rw [if_neg (fun q => q.2 hnum)]; exact ⟨hy1.le hS4, hy2⟩
              · refine onE (ntF (decide_eq_false hnum)) ⟨rfl, (x, 14), rfl, ?_⟩
                unfold Rc.comR; rw [if_pos ⟨hy2.symm.trans he, hnum⟩]; exact ⟨(hx2.le hS3).le hS4, rfl⟩
            · refine offE (beq_eq_false_iff_ne.2 he) (onF ⟨rfl, (y1, e), rfl, ?_⟩)
              unfold Rc.comR; rw [if_neg (fun q => he (hy2.trans q.1))]; exact ⟨hy1, hy2⟩
      · refine offE (beq_eq_false_iff_ne.2 (by show ¬ ((ws.length : Nat) : Int) = 2; omega)) ⟨rfl, (x, 5), rfl, ?_⟩
        rw [readM_bad (.inl h2)]; exact ⟨hx2, rfl⟩
end Go.Proofs.YtpeehenohdlfdaaGreatDoor
