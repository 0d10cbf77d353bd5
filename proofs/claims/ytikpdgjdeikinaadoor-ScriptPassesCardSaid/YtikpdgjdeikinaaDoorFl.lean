/- law63: the reference's Read. -/
import Derived.Test.YtikpdgjdeikinaaDoorFk
namespace Go.Proofs.YtikpdgjdeikinaaDoor
open Go Go.Vc Go.Sort
set_option maxRecDepth 100000
set_option maxHeartbeats 8000000

/-- The Op found among the first i names. -/
def opAt (w : Sc.Bs) (i : Nat) : Int := if 0 ≤ Sc.opOf w ∧ Sc.opOf w < (i : Int) then Sc.opOf w else -1
theorem opAt_step {w : Sc.Bs} {i : Nat} (h : i < 16) : opAt w (i + 1) = if Sc.nameOf i = w then (i : Int) else opAt w i := by
  unfold opAt
  by_cases hn : Sc.nameOf i = w
  · have : Sc.opOf w = i := by rw [← hn]; exact Sc.op_name (Int.natCast_nonneg _) (by omega)
    rw [if_pos hn, if_pos (by omega), this]
  · rw [if_neg hn]
    by_cases h1 : 0 ≤ Sc.opOf w ∧ Sc.opOf w < (i : Int)
    · rw [if_pos h1, if_pos (by omega)]
    · rw [if_neg h1, if_neg]
      intro h2
      have h3 : Sc.opOf w = (i : Int) := by omega
      have h4 := Sc.name_op (w := w) h2.1
      rw [h3] at h4
      exact hn h4
theorem opAt_end (w : Sc.Bs) : opAt w 16 = Sc.opOf w := by
  unfold opAt
  rcases Sc.op_range w with h | h
  · rw [if_neg (by omega), h]
  · rw [if_pos (by omega)]
/-- Numbers and words among the first j texts. -/
def selN (k L : Nat) (ws : List Sc.Bs) (j : Nat) : List Sc.Bs := if k = 2 then (ws.take j).eraseIdx L else ws.take j
def selW (k L : Nat) (ws : List Sc.Bs) (j : Nat) : List Sc.Bs := if k = 2 then ((ws.take j).drop L).take 1 else []
theorem sel_word {L : Nat} {ws : List Sc.Bs} {w : Sc.Bs} (h : ws[L]? = some w) : selN 2 L ws (L + 1) = selN 2 L ws L ∧ selW 2 L ws (L + 1) = selW 2 L ws L ++ [w] := by
  have hl : L < ws.length := (List.getElem?_eq_some_iff.1 h).1
  have ht : ws.take (L + 1) = ws.take L ++ [w] := by rw [List.take_add_one, h]; rfl
  have hlen : (ws.take L).length = L := by rw [List.length_take]; omega
  unfold selN selW
  simp only [if_true]
  rw [ht]
  constructor
  · rw [List.eraseIdx_append_of_length_le (by omega), hlen, Nat.sub_self, List.eraseIdx_of_length_le (l := ws.take L) (by omega)]; simp
  · rw [List.drop_append, hlen, Nat.sub_self, List.drop_eq_nil_of_le (by omega)]; simp
theorem sel_word' {L j : Nat} (e : j = L) {ws : List Sc.Bs} {w : Sc.Bs} (h : ws[j]? = some w) : selN 2 L ws (j + 1) = selN 2 L ws j ∧ selW 2 L ws (j + 1) = selW 2 L ws j ++ [w] := by
  subst e; exact sel_word h
theorem sel_num {k L j : Nat} {ws : List Sc.Bs} {w : Sc.Bs} (h : ws[j]? = some w) (hk : k = 2 → j ≠ L) : selN k L ws (j + 1) = selN k L ws j ++ [w] ∧ selW k L ws (j + 1) = selW k L ws j := by
  have hl : j < ws.length := (List.getElem?_eq_some_iff.1 h).1
  have ht : ws.take (j + 1) = ws.take j ++ [w] := by rw [List.take_add_one, h]; rfl
  have hlen : (ws.take j).length = j := by rw [List.length_take]; omega
  unfold selN selW
  rw [ht]
  by_cases h2 : k = 2
  · have hj := hk h2
    simp only [if_pos h2]
    rcases Nat.lt_or_ge j L with q | q
    · constructor
      · rw [List.eraseIdx_of_length_le (by simp; omega), List.eraseIdx_of_length_le (by omega)]
      · rw [List.drop_eq_nil_of_le (by simp; omega), List.drop_eq_nil_of_le (by omega)]
    · constructor
      · rw [List.eraseIdx_append_of_lt_length (by omega)]
      · rw [List.drop_append_of_le_length (by omega), List.take_append_of_le_length (by rw [List.length_drop]; omega)]
  · simp only [if_neg h2]; exact ⟨trivial, trivial⟩
theorem sel_end_w {L : Nat} {ws : List Sc.Bs} (h : ws.length ≤ L) : selW 2 L ws ws.length = [] := by
  unfold selW
  rw [if_pos rfl, List.take_length, List.drop_eq_nil_of_le h]; rfl
theorem sel_end {L : Nat} {ws : List Sc.Bs} (h : L < ws.length) : selN 2 L ws ws.length = ws.take L ++ ws.drop (L + 1) ∧ selW 2 L ws ws.length = [ws.getD L []] := by
  unfold selN selW
  rw [if_pos rfl, if_pos rfl, List.take_length, List.eraseIdx_eq_take_drop_succ]
  refine ⟨rfl, ?_⟩
  rw [List.drop_eq_getElem_cons h, List.getD_eq_getElem?_getD, List.getElem?_eq_getElem h]; rfl
/-- What the line comes to where the numbers are good. -/
theorem read_good {w0 : Sc.Bs} {ws : List Sc.Bs} (h0 : 0 ≤ Sc.opOf w0) (h1 : Sc.opOf w0 ≠ 1) (hall : (selN (Sc.kindOf (Sc.opOf w0)) (Sc.leastOf (Sc.opOf w0)) ws ws.length).all Sc.okW = true) :
    ∀ e, e = Sc.checkR (0, Sc.opOf w0, (selN (Sc.kindOf (Sc.opOf w0)) (Sc.leastOf (Sc.opOf w0)) ws ws.length).map Txt.valOf, selW (Sc.kindOf (Sc.opOf w0)) (Sc.leastOf (Sc.opOf w0)) ws ws.length) →
      (Sc.readW w0 ws).2 = e ∧ (e = 0 → (Sc.readW w0 ws).1 = (0, Sc.opOf w0, (selN (Sc.kindOf (Sc.opOf w0)) (Sc.leastOf (Sc.opOf w0)) ws ws.length).map Txt.valOf, selW (Sc.kindOf (Sc.opOf w0)) (Sc.leastOf (Sc.opOf w0)) ws ws.length)) := by
  intro e he
  have h15 : Sc.opOf w0 ≤ 15 := by rcases Sc.op_range w0 with q | q <;> omega
  rw [check_chk 0 _ h0 h15] at he
  unfold Sc.readW
  rw [if_neg (by omega)]
  have hk1 : Sc.kindOf (Sc.opOf w0) ≠ 1 := fun q => h1 (Sc.kind_one.1 q)
  rw [if_neg hk1]
  rcases Sc.kind_cases (Sc.opOf w0) with hk | hk | hk
  · rw [hk] at he hall ⊢
    have e1 : selN 0 (Sc.leastOf (Sc.opOf w0)) ws ws.length = ws := by unfold selN; rw [if_neg (by decide), List.take_length]
    have e2 : selW 0 (Sc.leastOf (Sc.opOf w0)) ws ws.length = [] := rfl
    rw [e1] at he hall ⊢
    rw [e2] at he ⊢
    rw [if_neg (by decide)]
    have := fin_chk h0 h15 (ws := []) hall
    rw [← he] at this
    exact this
  · exact absurd hk hk1
  · rw [hk] at he hall ⊢
    rw [if_pos rfl]
    by_cases hl : ws.length ≤ Sc.leastOf (Sc.opOf w0)
    · rw [if_pos hl]
      rw [sel_end_w hl] at he ⊢
      have : e = 5 := by
        rw [he]; unfold chkR
        rw [if_pos (.inr (.inr (by rw [hk]; rfl)))]
      rw [this]
      exact ⟨rfl, fun q => by cases q⟩
    · rw [if_neg hl]
      obtain ⟨e1, e2⟩ := sel_end (ws := ws) (L := Sc.leastOf (Sc.opOf w0)) (by omega)
      rw [e1] at he hall ⊢
      rw [e2] at he ⊢
      have := fin_chk h0 h15 (ws := [ws.getD (Sc.leastOf (Sc.opOf w0)) []]) hall
      rw [← he] at this
      exact this
/-- A bad number. -/
theorem read_bad {w0 w : Sc.Bs} {ws : List Sc.Bs} {j : Nat} (h0 : 0 ≤ Sc.opOf w0) (h1 : Sc.opOf w0 ≠ 1) (hj : ws[j]? = some w) (hk : Sc.kindOf (Sc.opOf w0) = 2 → j ≠ Sc.leastOf (Sc.opOf w0)) (hb : Sc.okW w = false) : (Sc.readW w0 ws).2 = 5 := by
  have hk1 : Sc.kindOf (Sc.opOf w0) ≠ 1 := fun q => h1 (Sc.kind_one.1 q)
  have hl : j < ws.length := (List.getElem?_eq_some_iff.1 hj).1
  have hno : ∀ l : List Sc.Bs, w ∈ l → l.all Sc.okW = false := fun l hm => by
    cases h : l.all Sc.okW with
    | false => rfl
    | true => rw [List.all_eq_true.1 h w hm] at hb; cases hb
  unfold Sc.readW
  rw [if_neg (by omega), if_neg hk1]
  by_cases h2 : Sc.kindOf (Sc.opOf w0) = 2
  · rw [if_pos h2]
    split
    · rfl
    · refine fin_bad (hno _ ?_)
      have := hk h2
      rcases Nat.lt_or_ge j (Sc.leastOf (Sc.opOf w0)) with q | q
      · refine List.mem_append_left _ (List.mem_of_getElem? (i := j) ?_)
        rw [List.getElem?_take, if_pos q, hj]
      · refine List.mem_append_right _ (List.mem_of_getElem? (i := j - (Sc.leastOf (Sc.opOf w0) + 1)) ?_)
        rw [List.getElem?_drop, show Sc.leastOf (Sc.opOf w0) + 1 + (j - (Sc.leastOf (Sc.opOf w0) + 1)) = j by omega, hj]
  · rw [if_neg h2]
    exact fin_bad (hno _ (List.mem_of_getElem? hj))
theorem line_drop {w0 : Sc.Bs} {ws : List Sc.Bs} (h : Sc.opOf w0 = 1) (hw : ws ≠ []) : ∀ s, Txt.pieces 32 s = w0 :: ws → s.drop 5 = Txt.joinC 32 ws ∧ 5 ≤ s.length := by
  intro s hs
  have hj := Txt.join_pieces 32 s
  rw [hs] at hj
  have hn : w0 = Sc.nameOf 1 := by rw [← h]; exact (Sc.name_op (by omega)).symm
  cases ws with
  | nil => exact absurd rfl hw
  | cons v vs =>
    have e : Txt.joinC 32 (w0 :: v :: vs) = w0 ++ 32 :: Txt.joinC 32 (v :: vs) := rfl
    rw [e, hn] at hj
    rw [← hj]
    exact ⟨rfl, by rw [List.length_append]; simp [Sc.nameOf, Sc.nameL]; omega⟩
theorem bs_extract (s : List UInt8) (i : Nat) : (bs s).extract i (bs s).size = bs (s.drop i) := by
  apply ByteArray.ext
  apply Array.ext'
  rw [Lib.extract_data]
  show (s.drop i).take ((bs s).size - i) = s.drop i
  rw [bs_size, ← List.length_drop, List.take_length]
@[reducible] def boxC (a b : Int) : Res := .box [.v (.int .i64 a), .v (.int .i64 b), .v (.slice none 0 0), .v (.slice none 0 0)]
@[reducible] def boxR (a b : Int) (i j : Nat) : Res := .box [.v (.int .i64 a), .v (.int .i64 b), .ref i, .ref j]
def or21_23x : Vc.Ord := .calm 1 [1, 2, 3, 4] (.alt 0 (.op 2 (.op 3 (.op 4 .done))) (.alt 2 (.op 0 (.op 3 (.op 4 .done))) .stop))
theorem refRead_spec (S : Store) (s : Sc.Bs) (hs : s.length ≤ 1000000) : Pure Tryd.prog 21 S [.string (bs s)] rCE (fun S' x => RPost (Sc.readR s) S' x) := by
  refine pure_vc agrees Tryd.func21 rfl rfl (fun S S' q hle h => h.le hle) ?_
  refine ⟨⟨_, rfl, rfl, rfl⟩, .inl ⟨_, _, _, cutw_spec S s hs, fun S1 q hS1 hq => ?_⟩⟩
  have hne := Txt.pieces_ne 32 s
  have hcnt := Txt.pieces_count 32 s
  have hpl : ∀ w ∈ Txt.pieces 32 s, w.length ≤ 1000000 := fun w hw => Nat.le_trans (Txt.pieces_len hw) hs
  have hrd : Sc.readR s = match Txt.pieces 32 s with | [] => (Sc.c0, 16) | w0 :: ws => Sc.readW w0 ws := rfl
  have hld := fun (w0 : Sc.Bs) (ws : List Sc.Bs) (a : Sc.opOf w0 = 1) (b : ws ≠ []) (c : Txt.pieces 32 s = w0 :: ws) => line_drop a b s c
  obtain ⟨qp, qn, qc⟩ := q
  have hq1 : qn = ((Txt.pieces 32 s).map bs).length := hq.1
  have hq2 : RowRd S1 qp .str ((Txt.pieces 32 s).map bs) := hq.2
  clear hq
  have hsz := bs_size s
  cases hp : Txt.pieces 32 s with
  | nil => exact absurd hp hne
  | cons w0 ws =>
    rw [hp] at hq1 hq2 hrd hcnt hpl hld
    rw [hrd]
    have hrd2 : (match w0 :: ws with | [] => (Sc.c0, 16) | w0 :: ws => Sc.readW w0 ws) = Sc.readW w0 ws := rfl
    rw [hrd2]
    rw [List.length_map, List.length_cons] at hq1
    rw [List.length_cons] at hcnt
    subst hq1
    refine ⟨[], [], Nat × Int × Store, List.range' 13 81, fun a => [(6, rI a.1)], fun a => [boxC 0 0, boxC 0 a.2.1], fun a => a.2.2, fun a => a.1 ≤ 16 ∧ a.2.1 = opAt w0 a.1 ∧ S1.le a.2.2, fun a => 16 - a.1, ?_⟩
    refine And.intro (Exists.intro (0, -1, S1) (And.intro (And.intro (And.intro ?_ rfl) (And.intro rfl (Store.le_refl _))) ⟨Nat.zero_le _, ?_, Store.le_refl _⟩)) ?_
    · repeat' first | exact trivial | exact rfl | refine And.intro ?_ ?_
    · show -1 = opAt w0 0
      unfold opAt; rw [if_neg (by omega)]
    rintro ⟨i, op, Sa⟩ ⟨hi, hopa, hSa⟩
    have hi : i ≤ 16 := hi
    have hopa : op = opAt w0 i := hopa
    have hSa : S1.le Sa := hSa
    have i0 : (0 : Int) ≤ ((i : Nat) : Int) := Int.natCast_nonneg _
    have hqa := hq2.le hSa
    have wi : IntKind.i64.wrap (((i : Nat) : Int) + 1) = ((i + 1 : Nat) : Int) := wrap_i64 (by omega) (by omega)
    refine And.intro (fun h => ?_) (fun h => ?_)
    · have hil : i < 16 := by
        have : ((i : Nat) : Int) < 16 := of_decide_eq_true h
        omega
      obtain ⟨b, o, hpp, -, hrd0⟩ := row_at hqa (i := 0) rfl
      refine ⟨or21_6, [], oF21_6, by kernel_rfl, Int.le_refl _, by show (0 : Int) < ((ws.length + 1 : Nat) : Int); omega, b, o, hpp, bs w0, trivial, hrd0, ⟨_, rfl, rfl, rfl⟩, .inl ⟨_, _, _, refName_spec Sa i, fun S2 _ hS2 _ => ?_⟩⟩
      have hst := opAt_step (w := w0) hil
      by_cases he : Sc.nameOf i = w0
      · rw [if_pos he] at hst
        refine onE (isE he) ⟨((i + 1 : Nat) : Int), wi, (i + 1, (i : Int), S2), ⟨⟨?_, rfl⟩, rfl, Store.le_refl _⟩, ⟨hil, hst.symm, Store.le_trans hSa hS2⟩, by show 16 - (i + 1) < 16 - i; omega⟩
        repeat' first | exact trivial | exact rfl | refine And.intro ?_ ?_
      · rw [if_neg he] at hst
        refine offE (isN he) ⟨((i + 1 : Nat) : Int), wi, (i + 1, op, S2), ⟨⟨?_, rfl⟩, rfl, Store.le_refl _⟩, ⟨hil, hopa.trans hst.symm, Store.le_trans hSa hS2⟩, by show 16 - (i + 1) < 16 - i; omega⟩
        repeat' first | exact trivial | exact rfl | refine And.intro ?_ ?_
    · have hil : i = 16 := by
        have : ¬ ((i : Nat) : Int) < 16 := of_decide_eq_false h
        omega
      subst hil
      clear wi i0
      rw [opAt_end] at hopa
      subst hopa
      by_cases h0 : Sc.opOf w0 < 0
      · have hr : Sc.readW w0 ws = (Sc.c0, 16) := by unfold Sc.readW; rw [if_pos h0]
        rw [hr]
        exact onE (decide_eq_true h0) ⟨rfl, ((0, Sc.opOf w0, (none, 0, 0), (none, 0, 0)), 16), rfl, r_bad rfl (by decide)⟩
      refine offE (decide_eq_false h0) ?_
      have h15 : Sc.opOf w0 ≤ 15 := by rcases Sc.op_range w0 with q | q <;> omega
      by_cases h1 : Sc.opOf w0 = 1
      · refine onE (beq_iff_eq.2 h1) ?_
        have hr : Sc.readW w0 ws = if ws = [] ∨ Sc.plainW (Txt.joinC 32 ws) = false then (Sc.c0, 5) else ((0, Sc.opOf w0, [], [Txt.joinC 32 ws]), 0) := by unfold Sc.readW; rw [if_neg h0, if_pos (Sc.kind_one.2 h1)]
        rw [hr]
        by_cases hw : ws = []
        · rw [if_pos (.inl hw)]
          exact onE (decide_eq_true (by show ((ws.length + 1 : Nat) : Int) < 2; rw [hw]; decide)) ⟨rfl, ((0, Sc.opOf w0, (none, 0, 0), (none, 0, 0)), 5), rfl, r_bad rfl (by decide)⟩
        · have hwl : 0 < ws.length := by cases ws with | nil => exact absurd rfl hw | cons _ _ => simp
          obtain ⟨d1, d2⟩ := hld w0 ws h1 hw rfl
          refine offE (decide_eq_false (by show ¬ ((ws.length + 1 : Nat) : Int) < 2; omega)) ?_
          refine ⟨or21_13, [1], oF21_13, by kernel_rfl, ?_⟩
          have hex : (bs s).extract 5 (bs s).size = bs (Txt.joinC 32 ws) := by rw [bs_extract, d1]
          have hjl : (Txt.joinC 32 ws).length ≤ 1000000000 := by rw [← d1, List.length_drop]; omega
          refine ⟨by decide, by show 5 ≤ (bs s).size; omega, Nat.le_refl _, .inl ⟨rfl, [(bs s).extract 5 (bs s).size], ⟨rfl, rfl⟩, okS _, by show 1 * 16 ≤ 140737488355328; decide, ?_⟩⟩
          refine ⟨or21_23x, [0, 3], [0], by kernel_rfl, And.intro ?_ (And.intro ?_ trivial)⟩
          all_goals
            refine ⟨⟨_, rfl, rfl, rfl⟩, .inl fun p3 c3 S3 hS3 hr3 hpf3 => ⟨_, _, _, refCheck_spec S3 (0, Sc.opOf w0, (none, 0, 0), (p3, 1, c3)) (Sc.opOf w0) [] [Txt.joinC 32 ws] rfl (ns_nil S3) (Nat.zero_le _) rfl (by rw [hex] at hr3; exact hr3) (fun x hx => by rw [List.mem_singleton.1 hx]; exact hjl), fun S4 e hS4 he => ?_⟩⟩
            refine ⟨rfl, ((0, Sc.opOf w0, (none, 0, 0), (p3, 1, c3)), e), rfl, ?_⟩
            have he : e = Sc.checkR (0, Sc.opOf w0, [], [Txt.joinC 32 ws]) := he
            rw [hex] at hr3
            cases hpw : Sc.plainW (Txt.joinC 32 ws) with
            | false =>
              rw [if_pos (.inr rfl)]
              have : e = 5 := by
                rw [he, h1, check_chk 0 1 (by decide) (by decide)]; unfold chkR
                rw [if_pos (.inr (.inr (by show Sc.fitsW 1 _ = false; simp [Sc.fitsW, hpw])))]
              exact ⟨this, fun q => by cases q⟩
            | true =>
              rw [if_neg (by simp [hw])]
              have : e = 0 := by rw [he, h1]; exact Sc.check_text hpw
              exact ⟨this, fun _ => ⟨rfl, rfl, ns_nil S4, ws_one (pform_le hpf3.1) (hr3.le hS4) hjl⟩⟩
      · refine offE (beq_eq_false_iff_ne.2 h1) ?_
        have h00 : 0 ≤ Sc.opOf w0 := by omega
        have hgood := read_good (ws := ws) h00 h1
        have hll := Sc.least_le (Sc.opOf w0)
        have hkc : Sc.kindOf (Sc.opOf w0) = 2 ↔ Sc.opOf w0 = 2 ∨ Sc.opOf w0 = 10 := by
          unfold Sc.kindOf; rw [if_neg h1]; split <;> simp_all
        refine ⟨[], [(302001, shI, 2), (303001, .str, 9)], Nat, [8, 9] ++ List.range' 43 51, fun j => [(7, rI ((j + 1 : Nat) : Int))], fun j => [boxC 0 0, boxR 0 (Sc.opOf w0) 2 3, .row shI 2 ((selN (Sc.kindOf (Sc.opOf w0)) (Sc.leastOf (Sc.opOf w0)) ws j).map Txt.valOf), .row .str 9 ((selW (Sc.kindOf (Sc.opOf w0)) (Sc.leastOf (Sc.opOf w0)) ws j).map bs)], fun _ => Sa,
          fun j => j ≤ ws.length ∧ (selN (Sc.kindOf (Sc.opOf w0)) (Sc.leastOf (Sc.opOf w0)) ws j).all Sc.okW = true, fun j => ws.length - j, ?_⟩
        have z1 : selN (Sc.kindOf (Sc.opOf w0)) (Sc.leastOf (Sc.opOf w0)) ws 0 = [] := by unfold selN; split <;> rfl
        have z2 : selW (Sc.kindOf (Sc.opOf w0)) (Sc.leastOf (Sc.opOf w0)) ws 0 = [] := by unfold selW; split <;> simp
        refine And.intro (Exists.intro 0 (And.intro (And.intro (And.intro ?_ rfl) (And.intro ?_ (Store.le_refl _))) ⟨Nat.zero_le _, by rw [z1]; rfl⟩)) ?_
        · repeat' first | exact trivial | exact rfl | refine And.intro ?_ ?_
        · show _ = [_, _, Res.row shI 2 _, Res.row .str 9 _]
          rw [z1, z2]; rfl
        rintro j ⟨hj, hall⟩
        generalize hopg : Sc.opOf w0 = op at *
        have hj : j ≤ ws.length := hj
        have hall : (selN (Sc.kindOf op) (Sc.leastOf op) ws j).all Sc.okW = true := hall
        have hsl : (selN (Sc.kindOf op) (Sc.leastOf op) ws j).length ≤ ws.length := by
          unfold selN; split
          · exact Nat.le_trans (List.length_eraseIdx_le ..) (by rw [List.length_take]; omega)
          · rw [List.length_take]; omega
        have hsw : (selW (Sc.kindOf op) (Sc.leastOf op) ws j).length ≤ 1 := by
          unfold selW; split
          · rw [List.length_take]; omega
          · simp
        have hsf : ∀ x ∈ selW (Sc.kindOf op) (Sc.leastOf op) ws j, x.length ≤ 1000000000 := fun x hx => by
          unfold selW at hx; split at hx
          · have := hpl x (List.mem_cons_of_mem _ (List.mem_of_mem_take (List.mem_of_mem_drop (List.mem_of_mem_take hx)))); omega
          · cases hx
        have j0 : (0 : Int) ≤ ((j + 1 : Nat) : Int) := Int.natCast_nonneg _
        have wj : IntKind.i64.wrap (((j + 1 : Nat) : Int) + 1) = ((j + 1 + 1 : Nat) : Int) := wrap_i64 (by omega) (by omega)
        refine And.intro (fun h => ?_) (fun h => ?_)
        · have hjl : j < ws.length := by
            have : ((j + 1 : Nat) : Int) < ((ws.length + 1 : Nat) : Int) := of_decide_eq_true h
            omega
          obtain ⟨w, hx⟩ : ∃ w, ws[j]? = some w := ⟨_, List.getElem?_eq_getElem hjl⟩
          obtain ⟨b, o, hpp, -, hrd0⟩ := row_at hqa (i := j + 1) (x := bs w) (by rw [List.map_cons, List.getElem?_cons_succ, List.getElem?_map, hx]; rfl)
          have hno : (Sc.kindOf op = 2 → j ≠ Sc.leastOf op) → _ := fun hkj => sel_num (k := Sc.kindOf op) (L := Sc.leastOf op) hx hkj
          by_cases o2 : op = 2
          · have hk2 : Sc.kindOf op = 2 := hkc.2 (.inl o2)
            have hL : Sc.leastOf op = 1 := by rw [o2]; rfl
            refine onE (beq_iff_eq.2 o2) ?_
            by_cases hjL : j = 1
            · have hjL2 : j = Sc.leastOf op := by omega
              obtain ⟨w1, w2⟩ := sel_word' hjL2 hx
              refine onE (beq_iff_eq.2 (show ((j + 1 : Nat) : Int) = 2 by omega)) (onT ?_)
              refine ⟨or21_18, [1, 3], oF21_18, by kernel_rfl, j0, by show ((j + 1 : Nat) : Int) < ((ws.length + 1 : Nat) : Int); omega, b, o, hpp, bs w, trivial, hrd0, [bs w], ⟨rfl, rfl⟩, okS _, by rw [List.length_map]; show ((selW (Sc.kindOf op) (Sc.leastOf op) ws j).length + 1) * 16 ≤ 140737488355328; omega, ((j + 1 + 1 : Nat) : Int), wj, j + 1, ⟨⟨?_, rfl⟩, ?_, Store.le_refl _⟩, ⟨hjl, ?_⟩, by show ws.length - (j + 1) < ws.length - j; omega⟩
              · repeat' first | exact trivial | exact rfl | refine And.intro ?_ ?_
              · show [_, _, Res.row shI 2 _, Res.row .str 9 _] = [_, _, Res.row shI 2 _, Res.row .str 9 _]
                rw [hk2, w1, w2, List.map_append]; rfl
              · show (selN _ _ ws (j + 1)).all Sc.okW = true
                rw [hk2, w1, ← hk2]; exact hall
            · have hkj : Sc.kindOf op = 2 → j ≠ Sc.leastOf op := fun _ => by omega
              obtain ⟨n1, n2⟩ := hno hkj
              refine offE (beq_eq_false_iff_ne.2 (show ¬ ((j + 1 : Nat) : Int) = 2 by omega)) (offE (beq_eq_false_iff_ne.2 (show ¬ op = 10 by omega)) (onF ?_))
              refine ⟨j0, by show ((j + 1 : Nat) : Int) < ((ws.length + 1 : Nat) : Int); omega, b, o, hpp, bs w, trivial, hrd0, ⟨_, rfl, rfl, rfl⟩, .inl ⟨_, _, _, number_spec Sa w (hpl w (by simp [List.mem_of_getElem? hx])), fun S2 x hS2 hx2 => ?_⟩⟩
              obtain ⟨v, ok⟩ := x
              obtain ⟨hx3, hx4⟩ := hx2
              have hx3 : ok = Sc.okW w := hx3
              cases hok : Sc.okW w with
              | false =>
                rw [hok] at hx3
                subst hx3
                refine onT ?_
                intro p5 c5 S5 hS5 hr5 hpf5 p6 c6 S6 hS6 hr6 hpf6
                exact ⟨rfl, ((0, op, (p5, _, c5), (p6, _, c6)), 5), rfl, r_bad (read_bad (by rw [hopg]; exact h00) (by rw [hopg]; exact h1) hx (by rw [hopg]; exact hkj) hok) (by decide)⟩
              | true =>
                rw [hok] at hx3
                subst hx3
                have hvv : v = Txt.valOf w := hx4 rfl
                refine onF ⟨[v], ⟨rfl, rfl⟩, okInt _, by rw [List.length_map]; show ((selN (Sc.kindOf op) (Sc.leastOf op) ws j).length + 1) * 8 ≤ 140737488355328; omega, ((j + 1 + 1 : Nat) : Int), wj, j + 1, ⟨⟨?_, rfl⟩, ?_, hS2⟩, ⟨hjl, ?_⟩, by show ws.length - (j + 1) < ws.length - j; omega⟩
                · repeat' first | exact trivial | exact rfl | refine And.intro ?_ ?_
                · show [_, _, Res.row shI 2 _, Res.row .str 9 _] = [_, _, Res.row shI 2 _, Res.row .str 9 _]
                  rw [n1, n2, List.map_append, hvv]; rfl
                · show (selN _ _ ws (j + 1)).all Sc.okW = true
                  rw [n1, List.all_append, hall]; simp [hok]
          refine offE (beq_eq_false_iff_ne.2 o2) (onF ?_)
          by_cases o10 : op = 10
          · have hk2 : Sc.kindOf op = 2 := hkc.2 (.inr o10)
            have hL : Sc.leastOf op = 0 := by rw [o10]; rfl
            refine onE (beq_iff_eq.2 o10) ?_
            by_cases hjL : j = 0
            · have hjL2 : j = Sc.leastOf op := by omega
              obtain ⟨w1, w2⟩ := sel_word' hjL2 hx
              refine onE (beq_iff_eq.2 (show ((j + 1 : Nat) : Int) = 1 by omega)) ?_
              refine ⟨or21_18, [1, 3], oF21_18, by kernel_rfl, j0, by show ((j + 1 : Nat) : Int) < ((ws.length + 1 : Nat) : Int); omega, b, o, hpp, bs w, trivial, hrd0, [bs w], ⟨rfl, rfl⟩, okS _, by rw [List.length_map]; show ((selW (Sc.kindOf op) (Sc.leastOf op) ws j).length + 1) * 16 ≤ 140737488355328; omega, ((j + 1 + 1 : Nat) : Int), wj, j + 1, ⟨⟨?_, rfl⟩, ?_, Store.le_refl _⟩, ⟨hjl, ?_⟩, by show ws.length - (j + 1) < ws.length - j; omega⟩
              · repeat' first | exact trivial | exact rfl | refine And.intro ?_ ?_
              · show [_, _, Res.row shI 2 _, Res.row .str 9 _] = [_, _, Res.row shI 2 _, Res.row .str 9 _]
                rw [hk2, w1, w2, List.map_append]; rfl
              · show (selN _ _ ws (j + 1)).all Sc.okW = true
                rw [hk2, w1, ← hk2]; exact hall
            · have hkj : Sc.kindOf op = 2 → j ≠ Sc.leastOf op := fun _ => by omega
              obtain ⟨n1, n2⟩ := hno hkj
              refine offE (beq_eq_false_iff_ne.2 (show ¬ ((j + 1 : Nat) : Int) = 1 by omega)) ?_
              refine ⟨j0, by show ((j + 1 : Nat) : Int) < ((ws.length + 1 : Nat) : Int); omega, b, o, hpp, bs w, trivial, hrd0, ⟨_, rfl, rfl, rfl⟩, .inl ⟨_, _, _, number_spec Sa w (hpl w (by simp [List.mem_of_getElem? hx])), fun S2 x hS2 hx2 => ?_⟩⟩
              obtain ⟨v, ok⟩ := x
              obtain ⟨hx3, hx4⟩ := hx2
              have hx3 : ok = Sc.okW w := hx3
              cases hok : Sc.okW w with
              | false =>
                rw [hok] at hx3
                subst hx3
                refine onT ?_
                intro p5 c5 S5 hS5 hr5 hpf5 p6 c6 S6 hS6 hr6 hpf6
                exact ⟨rfl, ((0, op, (p5, _, c5), (p6, _, c6)), 5), rfl, r_bad (read_bad (by rw [hopg]; exact h00) (by rw [hopg]; exact h1) hx (by rw [hopg]; exact hkj) hok) (by decide)⟩
              | true =>
                rw [hok] at hx3
                subst hx3
                have hvv : v = Txt.valOf w := hx4 rfl
                refine onF ⟨[v], ⟨rfl, rfl⟩, okInt _, by rw [List.length_map]; show ((selN (Sc.kindOf op) (Sc.leastOf op) ws j).length + 1) * 8 ≤ 140737488355328; omega, ((j + 1 + 1 : Nat) : Int), wj, j + 1, ⟨⟨?_, rfl⟩, ?_, hS2⟩, ⟨hjl, ?_⟩, by show ws.length - (j + 1) < ws.length - j; omega⟩
                · repeat' first | exact trivial | exact rfl | refine And.intro ?_ ?_
                · show [_, _, Res.row shI 2 _, Res.row .str 9 _] = [_, _, Res.row shI 2 _, Res.row .str 9 _]
                  rw [n1, n2, List.map_append, hvv]; rfl
                · show (selN _ _ ws (j + 1)).all Sc.okW = true
                  rw [n1, List.all_append, hall]; simp [hok]
          · have hkj : Sc.kindOf op = 2 → j ≠ Sc.leastOf op := fun q => by rcases hkc.1 q with q | q <;> omega
            obtain ⟨n1, n2⟩ := hno hkj
            refine offE (beq_eq_false_iff_ne.2 o10) (onF ?_)
            refine ⟨j0, by show ((j + 1 : Nat) : Int) < ((ws.length + 1 : Nat) : Int); omega, b, o, hpp, bs w, trivial, hrd0, ⟨_, rfl, rfl, rfl⟩, .inl ⟨_, _, _, number_spec Sa w (hpl w (by simp [List.mem_of_getElem? hx])), fun S2 x hS2 hx2 => ?_⟩⟩
            obtain ⟨v, ok⟩ := x
            obtain ⟨hx3, hx4⟩ := hx2
            have hx3 : ok = Sc.okW w := hx3
            cases hok : Sc.okW w with
            | false =>
              rw [hok] at hx3
              subst hx3
              refine onT ?_
              intro p5 c5 S5 hS5 hr5 hpf5 p6 c6 S6 hS6 hr6 hpf6
              exact ⟨rfl, ((0, op, (p5, _, c5), (p6, _, c6)), 5), rfl, r_bad (read_bad (by rw [hopg]; exact h00) (by rw [hopg]; exact h1) hx (by rw [hopg]; exact hkj) hok) (by decide)⟩
            | true =>
              rw [hok] at hx3
              subst hx3
              have hvv : v = Txt.valOf w := hx4 rfl
              refine onF ⟨[v], ⟨rfl, rfl⟩, okInt _, by rw [List.length_map]; show ((selN (Sc.kindOf op) (Sc.leastOf op) ws j).length + 1) * 8 ≤ 140737488355328; omega, ((j + 1 + 1 : Nat) : Int), wj, j + 1, ⟨⟨?_, rfl⟩, ?_, hS2⟩, ⟨hjl, ?_⟩, by show ws.length - (j + 1) < ws.length - j; omega⟩
              · repeat' first | exact trivial | exact rfl | refine And.intro ?_ ?_
              · show [_, _, Res.row shI 2 _, Res.row .str 9 _] = [_, _, Res.row shI 2 _, Res.row .str 9 _]
                rw [n1, n2, List.map_append, hvv]; rfl
              · show (selN _ _ ws (j + 1)).all Sc.okW = true
                rw [n1, List.all_append, hall]; simp [hok]
        · have hjl : j = ws.length := by
            have : ¬ ((j + 1 : Nat) : Int) < ((ws.length + 1 : Nat) : Int) := of_decide_eq_false h
            omega
          subst hjl
          have hg := fun e he => (hgood hall e he)
          refine ⟨or21_23x, [0, 2, 3], [0], by kernel_rfl, And.intro ?_ (And.intro ?_ trivial)⟩
          all_goals
            refine ⟨⟨_, rfl, rfl, rfl⟩, .inl fun p5 c5 S5 hS5 hr5 hpf5 p6 c6 S6 hS6 hr6 hpf6 => ⟨_, _, _, refCheck_spec S6 (0, op, (p5, _, c5), (p6, _, c6)) op ((selN (Sc.kindOf op) (Sc.leastOf op) ws ws.length).map Txt.valOf) (selW (Sc.kindOf op) (Sc.leastOf op) ws ws.length) rfl ⟨rfl, pform_le hpf5.1, hr5.le hS6, fun n hn => ?_⟩ (by rw [List.length_map]; omega) (List.length_map ..) hr6 (fun x hx => ?_), fun S7 e hS7 he => ?_⟩⟩
            · obtain ⟨w, hw, rfl⟩ := List.mem_map.1 hn
              exact in64_iff.1 (Sc.okW_in (List.all_eq_true.1 hall w hw))
            · exact hsf x hx
            · have he : e = Sc.checkR (0, op, (selN (Sc.kindOf op) (Sc.leastOf op) ws ws.length).map Txt.valOf, selW (Sc.kindOf op) (Sc.leastOf op) ws ws.length) := he
              obtain ⟨g1, g2⟩ := hg e he
              refine ⟨rfl, ((0, op, (p5, _, c5), (p6, _, c6)), e), rfl, g1.symm, fun q => ?_⟩
              rw [g2 (g1.symm.trans q)]
              refine ⟨rfl, rfl, ⟨rfl, pform_le hpf5.1, (hr5.le hS6).le hS7, fun n hn => ?_⟩, ⟨List.length_map .., pform_le hpf6.1, hr6.le hS7, hsf⟩⟩
              obtain ⟨w, hw, rfl⟩ := List.mem_map.1 hn
              exact in64_iff.1 (Sc.okW_in (List.all_eq_true.1 hall w hw))
end Go.Proofs.YtikpdgjdeikinaaDoor
