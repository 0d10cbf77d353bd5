/- law63: the program's read. -/
import Derived.Test.YtikpdgjdeikinaaGreatDoorFe
namespace Go.Proofs.YtikpdgjdeikinaaGreatDoor
open Go Go.Vc Go.Sort
set_option maxRecDepth 100000
set_option maxHeartbeats 8000000

/-- A command that the store knows. -/
structure CIs (S : Store) (x : Cx) (c : Sc.Cmd) : Prop where
  line : x.1 = c.1
  op : x.2.1 = c.2.1
  ns : NsIs S x.2.2.1 c.2.2.1
  ws : WsIs S x.2.2.2 c.2.2.2
theorem CIs.le {S S' : Store} (h : S.le S') {x c} (hx : CIs S x c) : CIs S' x c := ⟨hx.line, hx.op, hx.ns.le h, hx.ws.le h⟩
def readL (op : Int) (l : List Sc.Bs) : Sc.Cmd × Int := if Sc.kindOf op = 2 then (if l.length ≤ Sc.leastOf op then (Sc.c0, 5) else Sc.finR op (l.take (Sc.leastOf op) ++ l.drop (Sc.leastOf op + 1)) [l.getD (Sc.leastOf op) []]) else Sc.finR op l []
def readP (op : Int) (rest : Sc.Bs) (blank : Bool) : Sc.Cmd × Int := if Sc.kindOf op = 1 then (if blank = false ∨ Sc.plainW rest = false then (Sc.c0, 5) else ((0, op, [], [rest]), 0)) else readL op (if blank = true then Txt.pieces 32 rest else [])
@[reducible] def rCE (x : Cx × Int) : SV := .tup [(true, [.v (.int .i64 x.1.1), .v (.int .i64 x.1.2.1), .v (slV x.1.2.2.1), .v (slV x.1.2.2.2)]), (false, [.v (.int .i64 x.2)])]
def RPost (r : Sc.Cmd × Int) (S' : Store) (x : Cx × Int) : Prop := x.2 = r.2 ∧ (r.2 = 0 → CIs S' x.1 r.1)
theorem RPost.le {S S' : Store} (h : S.le S') {r x} (hx : RPost r S x) : RPost r S' x := ⟨hx.1, fun h0 => (hx.2 h0).le h⟩
theorem r_bad {r : Sc.Cmd × Int} {S : Store} {x : Cx} {e : Int} (h : r.2 = e) (he : e ≠ 0) : RPost r S (x, e) := ⟨h.symm, fun h0 => absurd (h.symm.trans h0) he⟩
theorem okS (l : List ByteArray) : ∀ y ∈ l, Shape.str.ok y := fun _ _ => trivial
theorem ws_one {S : Store} {p : Option Addr} {c : Nat} {w : Sc.Bs} (hc : 1 ≤ c) (hr : RowRd S p .str [bs w]) (hw : w.length ≤ 1000000000) : WsIs S (p, 1, c) [w] := ⟨rfl, hc, hr, fun x hx => by rw [List.mem_singleton.1 hx]; exact hw⟩
theorem fin_bad {op : Int} {l ws : List Sc.Bs} (h : l.all Sc.okW = false) : (Sc.finR op l ws).2 = 5 := by unfold Sc.finR; rw [if_pos h]
theorem fin_chk {op : Int} (h0 : 0 ≤ op) (h1 : op ≤ 15) {l ws : List Sc.Bs} (h : l.all Sc.okW = true) : (Sc.finR op l ws).2 = chkR op (l.map Txt.valOf) ws ∧ (chkR op (l.map Txt.valOf) ws = 0 → (Sc.finR op l ws).1 = (0, op, l.map Txt.valOf, ws)) := by
  have e := check_chk 0 op h0 h1 (l.map Txt.valOf) ws
  unfold Sc.finR
  rw [if_neg (by rw [h]; simp), e]
  by_cases hq : chkR op (l.map Txt.valOf) ws = 0
  · rw [if_neg (by rw [hq]; simp)]; exact ⟨hq.symm, fun _ => rfl⟩
  · rw [if_pos hq]; exact ⟨rfl, fun z => absurd z hq⟩
theorem read_spec (S : Store) (hL : Lw S) (op : Int) (h0 : 0 ≤ op) (h15 : op ≤ 15) (rest : Sc.Bs) (hs : rest.length ≤ 1000000) (blank : Bool) : Pure Tryz.prog 25 S [.int .i64 op, .string (bs rest), .bool blank] rCE (fun S' x => RPost (readP op rest blank) S' x) := by
  refine pure_vc agrees Tryz.func25 rfl rfl (fun S S' q hle h => h.le hle) ?_
  refine ⟨⟨_, rfl, rfl, rfl⟩, .inl ⟨_, _, _, shapes_spec S, fun S1 l hS1 hl => ?_⟩⟩
  have hL1 := hL.le hS1
  obtain ⟨x, hx⟩ : ∃ x, (shpL l)[op.toNat]? = some x := ⟨_, List.getElem?_eq_getElem (show op.toNat < (shpL l).length by show op.toNat < 16; omega)⟩
  have hsh := hl.2 op.toNat x hx
  have hop : ((op.toNat : Nat) : Int) = op := Int.toNat_of_nonneg h0
  rw [hop] at hsh
  refine ⟨h0, by show op < ((16 : Nat) : Int); omega, x, cs_at (s := shS) (shpL l) op.toNat x hx, ?_⟩
  obtain ⟨x1, ⟨xp, xn, xc⟩, x3, x4⟩ := x
  have hsh2 := hsh
  obtain ⟨-, ⟨hfl, -⟩, hm, hk⟩ := hsh
  have hm : x3 = (Sc.moreOf op : Nat) := hm
  have hk : x4 = (Sc.kindOf op : Nat) := hk
  have hfl : xn = Sc.leastOf op := hfl
  subst hm hk hfl
  clear hx hl
  have hll := Sc.least_le op
  have hr1 : ∀ b, Sc.kindOf op ≠ 1 → readP op rest b = readL op (if b = true then Txt.pieces 32 rest else []) := fun b h => by unfold readP; rw [if_neg h]
  have hpl : (Txt.pieces 32 rest).length ≤ 1000000000 := by have := Txt.pieces_count 32 rest; omega
  have hpw : ∀ w ∈ Txt.pieces 32 rest, w.length ≤ 1000000000 := fun w hw => by have := Txt.pieces_len hw; omega
  rcases Sc.kind_cases op with hkd | hkd | hkd
  · have hrl : ∀ l, readL op l = Sc.finR op l [] := fun l => by unfold readL; rw [if_neg (by omega)]
    rw [hkd]
    refine offE rfl ?_
    cases blank with
    | false =>
      rw [hr1 false (by omega), hrl, if_neg (by simp)]
      refine onF (offE rfl ⟨⟨_, rfl, rfl, rfl⟩, .inl ⟨_, _, _, whole_spec S1 hL1 (none, 0, 0) [] (ws_nil S1) (Nat.zero_le _), fun S3 y hS3 hy => ?_⟩⟩)
      obtain ⟨nh, ok⟩ := y
      obtain ⟨rfl, hns⟩ : ok = true ∧ NsIs S3 nh [] := hy
      refine onF ⟨⟨_, rfl, rfl, rfl⟩, .inl ⟨_, _, _, check_spec S3 (x1, (xp, Sc.leastOf op, xc), ((Sc.moreOf op : Nat) : Int), ((0 : Nat) : Int)) op (by rw [← hkd]; exact hsh2.le hS3) nh (none, 0, 0) [] [] hns (Nat.zero_le _) (ws_nil S3), fun S4 e hS4 he => ?_⟩⟩
      have he : e = chkR op [] [] := he
      obtain ⟨f1, f2⟩ := fin_chk h0 h15 (l := []) (ws := []) rfl
      have f1 : (Sc.finR op [] []).2 = chkR op [] [] := f1
      have f2 : chkR op [] [] = 0 → (Sc.finR op [] []).1 = (0, op, [], []) := f2
      rw [← he] at f1 f2
      by_cases hq : e = 0
      · refine offE (bne_eq_false_iff_eq.2 hq) ⟨rfl, ((0, op, nh, (none, 0, 0)), 0), rfl, ?_⟩
        refine ⟨(f1.trans hq).symm, fun _ => ?_⟩
        rw [f2 hq]
        exact ⟨rfl, rfl, hns.le hS4, ws_nil S4⟩
      · exact onE (bne_iff_ne.2 hq) ⟨rfl, ((0, 0, (none, 0, 0), (none, 0, 0)), e), rfl, r_bad f1 hq⟩
    | true =>
      rw [hr1 true (by omega), hrl, if_pos rfl]
      refine onT ⟨⟨_, rfl, rfl, rfl⟩, .inl ⟨_, _, _, split_spec S1 hL1 rest (by omega), fun S2 q hS2 hq => ?_⟩⟩
      have hws : WsIs S2 q (Txt.pieces 32 rest) := ⟨by rw [hq.1]; unfold wordsR; rw [List.length_map], hq.2.1, hq.2.2, hpw⟩
      refine offE rfl ⟨⟨_, rfl, rfl, rfl⟩, .inl ⟨_, _, _, whole_spec S2 (hL1.le hS2) q _ hws hpl, fun S3 y hS3 hy => ?_⟩⟩
      obtain ⟨nh, ok⟩ := y
      unfold WPost at hy
      cases hall : (Txt.pieces 32 rest).all Sc.okW with
      | false =>
        rw [if_neg (by rw [hall]; simp)] at hy
        have hy : ok = false := hy
        subst hy
        exact onT ⟨rfl, ((0, 0, (none, 0, 0), (none, 0, 0)), 5), rfl, r_bad (fin_bad hall) (by decide)⟩
      | true =>
        rw [if_pos hall] at hy
        obtain ⟨rfl, hns⟩ : ok = true ∧ NsIs S3 nh ((Txt.pieces 32 rest).map Txt.valOf) := hy
        refine onF ⟨⟨_, rfl, rfl, rfl⟩, .inl ⟨_, _, _, check_spec S3 (x1, (xp, Sc.leastOf op, xc), ((Sc.moreOf op : Nat) : Int), ((0 : Nat) : Int)) op (by rw [← hkd]; exact (hsh2.le hS2).le hS3) nh (none, 0, 0) _ [] hns (by rw [List.length_map]; exact hpl) (ws_nil S3), fun S4 e hS4 he => ?_⟩⟩
        have he : e = chkR op ((Txt.pieces 32 rest).map Txt.valOf) [] := he
        obtain ⟨f1, f2⟩ := fin_chk h0 h15 (ws := []) hall
        rw [← he] at f1 f2
        by_cases hq : e = 0
        · refine offE (bne_eq_false_iff_eq.2 hq) ⟨rfl, ((0, op, nh, (none, 0, 0)), 0), rfl, ?_⟩
          refine ⟨(f1.trans hq).symm, fun _ => ?_⟩
          rw [f2 hq]
          exact ⟨rfl, rfl, hns.le hS4, ws_nil S4⟩
        · exact onE (bne_iff_ne.2 hq) ⟨rfl, ((0, 0, (none, 0, 0), (none, 0, 0)), e), rfl, r_bad f1 hq⟩
  · have hrp : readP op rest blank = if blank = false ∨ Sc.plainW rest = false then (Sc.c0, 5) else ((0, op, [], [rest]), 0) := by unfold readP; rw [if_pos hkd]
    rw [hkd, hrp]
    refine onE rfl ?_
    cases blank with
    | false =>
      rw [if_pos (.inl rfl)]
      exact onT (onT ⟨rfl, ((0, 0, (none, 0, 0), (none, 0, 0)), 5), rfl, r_bad rfl (by decide)⟩)
    | true =>
      refine onF ⟨⟨_, rfl, rfl, rfl⟩, .inl ⟨_, _, _, plain_spec S1 rest, fun S2 _ hS2 _ => ?_⟩⟩
      cases hp : Sc.plainW rest with
      | false =>
        rw [if_pos (.inr rfl)]
        exact onT ⟨rfl, ((0, 0, (none, 0, 0), (none, 0, 0)), 5), rfl, r_bad rfl (by decide)⟩
      | true =>
        rw [if_neg (by simp)]
        refine onF ?_
        intro p3 c3 S3 hS3 hr3 hpf3
        exact ⟨rfl, ((0, op, (none, 0, 0), (p3, 1, c3)), 0), rfl, rfl, fun _ => ⟨rfl, rfl, ns_nil S3, ws_one (pform_le hpf3.1) hr3 (by omega)⟩⟩
  · rw [hkd]
    refine offE rfl ?_
    cases blank with
    | false =>
      have hb : readL op [] = (Sc.c0, 5) := by unfold readL; rw [if_pos hkd, if_pos (show ([] : List Sc.Bs).length ≤ Sc.leastOf op from Nat.zero_le _)]
      rw [hr1 false (by omega), if_neg (by simp), hb]
      exact onF (onE rfl (onE (decide_eq_true (show (0 : Int) ≤ ((Sc.leastOf op : Nat) : Int) by omega)) ⟨rfl, ((0, 0, (none, 0, 0), (none, 0, 0)), 5), rfl, r_bad rfl (by decide)⟩))
    | true =>
      rw [hr1 true (by omega), if_pos rfl]
      refine onT ⟨⟨_, rfl, rfl, rfl⟩, .inl ⟨_, _, _, split_spec S1 hL1 rest (by omega), fun S2 q hS2 hq => ?_⟩⟩
      have hws : WsIs S2 q (Txt.pieces 32 rest) := ⟨by rw [hq.1]; unfold wordsR; rw [List.length_map], hq.2.1, hq.2.2, hpw⟩
      obtain ⟨qp, qn, qc⟩ := q
      generalize Txt.pieces 32 rest = ps at *
      have hqn : qn = ps.length := hws.len
      subst hqn
      have hqc : ps.length ≤ qc := hws.cap
      have hqr : RowRd S2 qp .str (ps.map bs) := hws.row
      refine onE rfl ?_
      by_cases hle : ps.length ≤ Sc.leastOf op
      · have hb : readL op ps = (Sc.c0, 5) := by unfold readL; rw [if_pos hkd, if_pos hle]
        rw [hb]
        exact onE (decide_eq_true (show ((ps.length : Nat) : Int) ≤ ((Sc.leastOf op : Nat) : Int) by omega)) ⟨rfl, ((0, 0, (none, 0, 0), (none, 0, 0)), 5), rfl, r_bad rfl (by decide)⟩
      obtain ⟨w, hw⟩ : ∃ w, ps[Sc.leastOf op]? = some w := ⟨_, List.getElem?_eq_getElem (by omega)⟩
      have hb : readL op ps = Sc.finR op (ps.take (Sc.leastOf op) ++ ps.drop (Sc.leastOf op + 1)) [w] := by
        unfold readL; rw [if_pos hkd, if_neg hle, List.getD_eq_getElem?_getD, hw]; rfl
      rw [hb]
      obtain ⟨b, o, hp, -, hrd⟩ := row_at hqr (i := Sc.leastOf op) (x := bs w) (by rw [List.getElem?_map, hw]; rfl)
      have n0 : (0 : Int) ≤ ((Sc.leastOf op : Nat) : Int) := Int.natCast_nonneg _
      have n1 : (0 : Int) ≤ ((Sc.leastOf op + 1 : Nat) : Int) := Int.natCast_nonneg _
      refine offE (decide_eq_false (show ¬ ((ps.length : Nat) : Int) ≤ ((Sc.leastOf op : Nat) : Int) by omega)) ⟨n0, by show ((Sc.leastOf op : Nat) : Int) < ((ps.length : Nat) : Int); omega, b, o, hp, bs w, trivial, hrd, ?_⟩
      refine ⟨or25_16, [4], oF25_16, by kernel_rfl, ((Sc.leastOf op + 1 : Nat) : Int), (by rw [wrap_i64 (by simp only; omega) (by simp only; omega)]; simp only; omega), n0, by show Sc.leastOf op ≤ qc; omega, ?_⟩
      have hlt : Sc.leastOf op + 1 ≤ ps.length := by omega
      have l1 : ((ps.map bs).take (Sc.leastOf op)).length = Sc.leastOf op := by rw [List.length_take, List.length_map]; omega
      have l2 : ((ps.map bs).drop (Sc.leastOf op + 1)).length = ps.length - (Sc.leastOf op + 1) := by rw [List.length_drop, List.length_map]
      have s1 := src_of (n := Sc.leastOf op) l1.symm (hqr.take (Sc.leastOf op))
      have s2 := src_of (n := ps.length - (Sc.leastOf op + 1)) l2.symm (hqr.drop (c := qc) (k := Sc.leastOf op + 1) (sz := 1) (by rw [List.length_map]; exact hqc) rfl)
      have b1 : (([] : List ByteArray).length + ((ps.map bs).take (Sc.leastOf op)).length) * 16 ≤ 140737488355328 := by rw [l1]; simp only [List.length_nil]; omega
      have b2 : ((([] : List ByteArray) ++ (ps.map bs).take (Sc.leastOf op)).length + ((ps.map bs).drop (Sc.leastOf op + 1)).length) * 16 ≤ 140737488355328 := by rw [List.nil_append, l1, l2]; omega
      have hmap : ([] : List ByteArray) ++ (ps.map bs).take (Sc.leastOf op) ++ (ps.map bs).drop (Sc.leastOf op + 1) = (ps.take (Sc.leastOf op) ++ ps.drop (Sc.leastOf op + 1)).map bs := by rw [List.nil_append, List.map_append, List.map_take, List.map_drop]
      have hlen : (([] : List ByteArray) ++ (ps.map bs).take (Sc.leastOf op) ++ (ps.map bs).drop (Sc.leastOf op + 1)).length = (ps.take (Sc.leastOf op) ++ ps.drop (Sc.leastOf op + 1)).length := by rw [hmap, List.length_map]
      have hfew : ∀ z ∈ ps.take (Sc.leastOf op) ++ ps.drop (Sc.leastOf op + 1), z.length ≤ 1000000000 := fun z hz => hpw z (by
        rcases List.mem_append.1 hz with hz | hz
        · exact List.mem_of_mem_take hz
        · exact List.mem_of_mem_drop hz)
      have hlf : (ps.take (Sc.leastOf op) ++ ps.drop (Sc.leastOf op + 1)).length ≤ 1000000000 := by rw [List.length_append, List.length_take, List.length_drop]; omega
      have hw9 : w.length ≤ 1000000000 := hpw w (List.mem_of_getElem? hw)
      refine And.intro ?_ (And.intro ?_ trivial)
      · refine And.intro ?_ (And.intro ?_ trivial)
        · refine ⟨_, s1, okS _, b1, n1, hlt, hqc, _, s2, okS _, b2, ?_⟩
          refine ⟨⟨_, rfl, rfl, rfl⟩, .inl fun p3 c3 S3 hS3 hr3 hpf3 => ⟨_, _, _, whole_spec S3 ((hL1.le hS2).le hS3) (p3, _, c3) (ps.take (Sc.leastOf op) ++ ps.drop (Sc.leastOf op + 1)) ⟨hlen, pform_le hpf3.1, hmap ▸ hr3, hfew⟩ hlf, fun S4 y hS4 hy => ?_⟩⟩
          obtain ⟨nh, ok⟩ := y
          unfold WPost at hy
          cases hall : (ps.take (Sc.leastOf op) ++ ps.drop (Sc.leastOf op + 1)).all Sc.okW with
          | false =>
            rw [if_neg (by rw [hall]; simp)] at hy
            have hy : ok = false := hy
            subst hy
            exact onT ⟨rfl, ((0, 0, (none, 0, 0), (none, 0, 0)), 5), rfl, r_bad (fin_bad hall) (by decide)⟩
          | true =>
            rw [if_pos hall] at hy
            obtain ⟨rfl, hns⟩ : ok = true ∧ NsIs S4 nh ((ps.take (Sc.leastOf op) ++ ps.drop (Sc.leastOf op + 1)).map Txt.valOf) := hy
            refine onF ⟨⟨_, rfl, rfl, rfl⟩, .inl fun p5 c5 S5 hS5 hr5 hpf5 => ⟨_, _, _, check_spec S5 (x1, (xp, Sc.leastOf op, xc), ((Sc.moreOf op : Nat) : Int), ((2 : Nat) : Int)) op (by rw [← hkd]; exact ((hsh2.le hS2).le hS3).le (Store.le_trans hS4 hS5)) nh (p5, 1, c5) _ [w] (hns.le hS5) (by rw [List.length_map]; exact hlf) (ws_one (pform_le hpf5.1) hr5 hw9), fun S6 e hS6 he => ?_⟩⟩
            have he : e = chkR op ((ps.take (Sc.leastOf op) ++ ps.drop (Sc.leastOf op + 1)).map Txt.valOf) [w] := he
            obtain ⟨f1, f2⟩ := fin_chk h0 h15 (ws := [w]) hall
            rw [← he] at f1 f2
            by_cases hq : e = 0
            · refine offE (bne_eq_false_iff_eq.2 hq) ⟨rfl, ((0, op, nh, (p5, 1, c5)), 0), rfl, ?_⟩
              refine ⟨(f1.trans hq).symm, fun _ => ?_⟩
              rw [f2 hq]
              exact ⟨rfl, rfl, (hns.le hS5).le hS6, ws_one (pform_le hpf5.1) (hr5.le hS6) hw9⟩
            · exact onE (bne_iff_ne.2 hq) ⟨rfl, ((0, 0, (none, 0, 0), (none, 0, 0)), e), rfl, r_bad f1 hq⟩
        · refine ⟨n1, hlt, hqc, _, s1, okS _, b1, _, s2, okS _, b2, ?_⟩
          refine ⟨⟨_, rfl, rfl, rfl⟩, .inl fun p3 c3 S3 hS3 hr3 hpf3 => ⟨_, _, _, whole_spec S3 ((hL1.le hS2).le hS3) (p3, _, c3) (ps.take (Sc.leastOf op) ++ ps.drop (Sc.leastOf op + 1)) ⟨hlen, pform_le hpf3.1, hmap ▸ hr3, hfew⟩ hlf, fun S4 y hS4 hy => ?_⟩⟩
          obtain ⟨nh, ok⟩ := y
          unfold WPost at hy
          cases hall : (ps.take (Sc.leastOf op) ++ ps.drop (Sc.leastOf op + 1)).all Sc.okW with
          | false =>
            rw [if_neg (by rw [hall]; simp)] at hy
            have hy : ok = false := hy
            subst hy
            exact onT ⟨rfl, ((0, 0, (none, 0, 0), (none, 0, 0)), 5), rfl, r_bad (fin_bad hall) (by decide)⟩
          | true =>
            rw [if_pos hall] at hy
            obtain ⟨rfl, hns⟩ : ok = true ∧ NsIs S4 nh ((ps.take (Sc.leastOf op) ++ ps.drop (Sc.leastOf op + 1)).map Txt.valOf) := hy
            refine onF ⟨⟨_, rfl, rfl, rfl⟩, .inl fun p5 c5 S5 hS5 hr5 hpf5 => ⟨_, _, _, check_spec S5 (x1, (xp, Sc.leastOf op, xc), ((Sc.moreOf op : Nat) : Int), ((2 : Nat) : Int)) op (by rw [← hkd]; exact ((hsh2.le hS2).le hS3).le (Store.le_trans hS4 hS5)) nh (p5, 1, c5) _ [w] (hns.le hS5) (by rw [List.length_map]; exact hlf) (ws_one (pform_le hpf5.1) hr5 hw9), fun S6 e hS6 he => ?_⟩⟩
            have he : e = chkR op ((ps.take (Sc.leastOf op) ++ ps.drop (Sc.leastOf op + 1)).map Txt.valOf) [w] := he
            obtain ⟨f1, f2⟩ := fin_chk h0 h15 (ws := [w]) hall
            rw [← he] at f1 f2
            by_cases hq : e = 0
            · refine offE (bne_eq_false_iff_eq.2 hq) ⟨rfl, ((0, op, nh, (p5, 1, c5)), 0), rfl, ?_⟩
              refine ⟨(f1.trans hq).symm, fun _ => ?_⟩
              rw [f2 hq]
              exact ⟨rfl, rfl, (hns.le hS5).le hS6, ws_one (pform_le hpf5.1) (hr5.le hS6) hw9⟩
            · exact onE (bne_iff_ne.2 hq) ⟨rfl, ((0, 0, (none, 0, 0), (none, 0, 0)), e), rfl, r_bad f1 hq⟩
      · refine ⟨n1, hlt, hqc, _, s1, okS _, b1, _, s2, okS _, b2, ?_⟩
        refine ⟨⟨_, rfl, rfl, rfl⟩, .inl fun p3 c3 S3 hS3 hr3 hpf3 => ⟨_, _, _, whole_spec S3 ((hL1.le hS2).le hS3) (p3, _, c3) (ps.take (Sc.leastOf op) ++ ps.drop (Sc.leastOf op + 1)) ⟨hlen, pform_le hpf3.1, hmap ▸ hr3, hfew⟩ hlf, fun S4 y hS4 hy => ?_⟩⟩
        obtain ⟨nh, ok⟩ := y
        unfold WPost at hy
        cases hall : (ps.take (Sc.leastOf op) ++ ps.drop (Sc.leastOf op + 1)).all Sc.okW with
        | false =>
          rw [if_neg (by rw [hall]; simp)] at hy
          have hy : ok = false := hy
          subst hy
          exact onT ⟨rfl, ((0, 0, (none, 0, 0), (none, 0, 0)), 5), rfl, r_bad (fin_bad hall) (by decide)⟩
        | true =>
          rw [if_pos hall] at hy
          obtain ⟨rfl, hns⟩ : ok = true ∧ NsIs S4 nh ((ps.take (Sc.leastOf op) ++ ps.drop (Sc.leastOf op + 1)).map Txt.valOf) := hy
          refine onF ⟨⟨_, rfl, rfl, rfl⟩, .inl fun p5 c5 S5 hS5 hr5 hpf5 => ⟨_, _, _, check_spec S5 (x1, (xp, Sc.leastOf op, xc), ((Sc.moreOf op : Nat) : Int), ((2 : Nat) : Int)) op (by rw [← hkd]; exact ((hsh2.le hS2).le hS3).le (Store.le_trans hS4 hS5)) nh (p5, 1, c5) _ [w] (hns.le hS5) (by rw [List.length_map]; exact hlf) (ws_one (pform_le hpf5.1) hr5 hw9), fun S6 e hS6 he => ?_⟩⟩
          have he : e = chkR op ((ps.take (Sc.leastOf op) ++ ps.drop (Sc.leastOf op + 1)).map Txt.valOf) [w] := he
          obtain ⟨f1, f2⟩ := fin_chk h0 h15 (ws := [w]) hall
          rw [← he] at f1 f2
          by_cases hq : e = 0
          · refine offE (bne_eq_false_iff_eq.2 hq) ⟨rfl, ((0, op, nh, (p5, 1, c5)), 0), rfl, ?_⟩
            refine ⟨(f1.trans hq).symm, fun _ => ?_⟩
            rw [f2 hq]
            exact ⟨rfl, rfl, (hns.le hS5).le hS6, ws_one (pform_le hpf5.1) (hr5.le hS6) hw9⟩
          · exact onE (bne_iff_ne.2 hq) ⟨rfl, ((0, 0, (none, 0, 0), (none, 0, 0)), e), rfl, r_bad f1 hq⟩
end Go.Proofs.YtikpdgjdeikinaaGreatDoor
