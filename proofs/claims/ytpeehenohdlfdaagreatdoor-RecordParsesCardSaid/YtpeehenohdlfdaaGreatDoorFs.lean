/- law57: the reference's Parse. -/
import Derived.Test.YtpeehenohdlfdaaGreatDoorFr
namespace Go.Proofs.YtpeehenohdlfdaaGreatDoor
open Go Go.Vc Go.Sort
set_option maxRecDepth 100000
set_option maxHeartbeats 8000000

@[reducible] def rLNE (x : Hd × Int × Int) : SV := .tup [(false, [.v (slV x.1)]), (false, [.v (.int .i64 x.2.1)]), (false, [.v (.int .i64 x.2.2)])]
def LNPost (r : List Rc.Ev × Int × Int) (S' : Store) (x : Hd × Int × Int) : Prop := LIs S' x.1 r.1 ∧ x.2 = r.2
theorem readR_len {l : List Rc.Ev} {s : Rc.Bs} (h : (Rc.readR l s).2 = 0) : (Rc.readR l s).1.length = l.length + 1 := by
  obtain ⟨e, he, -, -⟩ := Rc.read_ok h
  rw [he]; simp
theorem parseP_cons (n : Nat) (acc : List Rc.Ev) (s : Rc.Bs) {ls : List Rc.Bs} (h : ls ≠ []) : Rc.parseP n acc (s :: ls) = if (Rc.readR acc s).2 ≠ 0 then ([], (n : Int), (Rc.readR acc s).2) else Rc.parseP (n + 1) (Rc.readR acc s).1 ls := by
  rw [Rc.parseP, if_neg h]
theorem parseP_one (n : Nat) (acc : List Rc.Ev) (s : Rc.Bs) : Rc.parseP n acc [s] = if s = [] then (acc, 0, 0) else ([], (n : Int), 5) := by
  rw [Rc.parseP, if_pos rfl]
abbrev Qz := Nat × Sc.Bs × Nat × Hd × List Rc.Ev × Store
theorem refParse_spec (S : Store) (s : Sc.Bs) (hs : s.length ≤ 900000) : Pure Tryz.prog 24 S [.string (bs s)] rLNE (fun S' x => LNPost (Rc.parseR s) S' x) := by
  refine pure_vc agrees Tryz.func24 rfl rfl (fun S S' q hle h => ⟨h.1.le hle, h.2⟩) ?_
  have hsz := bs_size s
  by_cases hbig : s.length > 65536
  · refine onE (decide_eq_true (by show ((bs s).size : Int) > 65536; omega)) ⟨rfl, ((none, 0, 0), 0, 7), rfl, ?_⟩
    unfold Rc.parseR; rw [if_pos hbig]
    exact ⟨l_nil S, rfl⟩
  refine offE (decide_eq_false (by show ¬ ((bs s).size : Int) > 65536; omega)) ?_
  have hR : Rc.parseR s = Rc.parseP 1 [] (Txt.pieces 10 s) := by unfold Rc.parseR; rw [if_neg hbig]
  rw [hR]
  refine ⟨[], [], Qz, [9, 10] ++ List.range' 14 30, fun a => [(5, .c (.v (slV a.2.2.2.1))), (6, rS (bs a.2.1)), (7, rI a.2.2.1), (8, rI a.1)], fun a => [], fun a => a.2.2.2.2.2,
    fun a => S.le a.2.2.2.2.2 ∧ a.1 ≤ s.length ∧ a.2.1.length ≤ a.1 ∧ 10 ∉ a.2.1 ∧ a.2.2.1 ≤ a.1 + 1 ∧ a.2.2.2.2.1.length ≤ a.1 ∧ LIs a.2.2.2.2.2 a.2.2.2.1 a.2.2.2.2.1 ∧ Rc.parseP a.2.2.1 a.2.2.2.2.1 (Txt.pieces 10 (a.2.1 ++ s.drop a.1)) = Rc.parseP 1 [] (Txt.pieces 10 s), fun a => s.length - a.1, ?_⟩
  refine And.intro (Exists.intro (0, [], 1, (none, 0, 0), [], S) (And.intro (And.intro (And.intro ?_ rfl) (And.intro rfl (Store.le_refl _))) ⟨Store.le_refl _, Nat.zero_le _, Nat.le_refl _, (by simp), Nat.le_refl _, Nat.zero_le _, l_nil S, rfl⟩)) ?_
  · repeat' first | exact trivial | exact rfl | refine And.intro ?_ ?_
  rintro ⟨i, ln, n, q, l, Sa⟩ ⟨hSa, hi, hln, h10, hn, hlk, hl, hinv⟩
  have hSa : S.le Sa := hSa
  have hi : i ≤ s.length := hi
  have hln : ln.length ≤ i := hln
  have h10 : 10 ∉ ln := h10
  have hn : n ≤ i + 1 := hn
  have hlk : l.length ≤ i := hlk
  have hl : LIs Sa q l := hl
  have hinv : Rc.parseP n l (Txt.pieces 10 (ln ++ s.drop i)) = Rc.parseP 1 [] (Txt.pieces 10 s) := hinv
  have i0 : (0 : Int) ≤ ((i : Nat) : Int) := Int.natCast_nonneg _
  refine And.intro (fun h => ?_) (fun h => ?_)
  · have hil : i < s.length := by
      have h : ((i : Nat) : Int) < ((bs s).size : Int) := of_decide_eq_true h
      omega
    clear h
    obtain ⟨x, hx⟩ : ∃ x, s[i]? = some x := ⟨_, List.getElem?_eq_getElem hil⟩
    have hdr : s.drop i = x :: s.drop (i + 1) := by
      rw [List.getElem?_eq_getElem hil] at hx
      rw [← Option.some.inj hx, List.getElem_cons_drop]
    rw [hdr] at hinv
    have wi : IntKind.i64.wrap (((i : Nat) : Int) + 1) = ((i + 1 : Nat) : Int) := wrap_i64 (by omega) (by omega)
    have wn : IntKind.i64.wrap (((n : Nat) : Int) + 1) = ((n + 1 : Nat) : Int) := wrap_i64 (by omega) (by omega)
    have hmu : s.length - (i + 1) < s.length - i := by omega
    refine ⟨i0, x, by rw [bs_get]; exact hx, ?_⟩
    by_cases hx10 : x = 10
    · subst hx10
      rw [Txt.pieces_hit _ h10, parseP_cons _ _ _ (Txt.pieces_ne 10 _)] at hinv
      refine offE (by rfl) ⟨⟨_, rfl, rfl, rfl⟩, .inl ⟨_, _, _, refRead_spec Sa q l hl (by omega) ln (by omega), fun S4 y hS4 hy => ?_⟩⟩
      obtain ⟨yq, e⟩ := y
      have hy1 : LIs S4 yq (Rc.readR l ln).1 := hy.1
      have hy2 : e = (Rc.readR l ln).2 := hy.2
      by_cases he : e = 0
      · have h0 := hy2.symm.trans he
        rw [if_neg (fun q => q h0)] at hinv
        have hlen := readR_len h0
        refine offE (bne_eq_false_iff_eq.2 he) ⟨((n + 1 : Nat) : Int), wn, ((i + 1 : Nat) : Int), wi, (i + 1, [], n + 1, yq, (Rc.readR l ln).1, S4), ⟨⟨?_, rfl⟩, rfl, Store.le_refl _⟩, ⟨Store.le_trans hSa hS4, hil, Nat.zero_le _, (by simp), by show n + 1 ≤ i + 1 + 1; omega, by show (Rc.readR l ln).1.length ≤ i + 1; omega, hy1, hinv⟩, hmu⟩
        repeat' first | exact trivial | exact rfl | refine And.intro ?_ ?_
      · rw [if_pos (fun q => he (hy2.trans q))] at hinv
        refine onE (bne_iff_ne.2 he) ⟨rfl, ((none, 0, 0), (n : Int), e), rfl, ?_⟩
        rw [← hinv, ← hy2]
        exact ⟨l_nil _, rfl⟩
    · have hext : bs ln ++ (bs s).extract i (i + 1) = bs (ln ++ [x]) := by rw [bs_ext s i hx, bs_app]
      have e2 : ln ++ x :: s.drop (i + 1) = (ln ++ [x]) ++ s.drop (i + 1) := by simp
      rw [e2] at hinv
      refine onE (bne_iff_ne.2 fun q => hx10 (UInt8.toNat_inj.1 (show x.toNat = 10 by have q : (x.toNat : Int) = 10 := q; omega))) ?_
      refine ⟨((i + 1 : Nat) : Int), wi, i0, by omega, by show i ≤ i + 1; omega, by show i + 1 ≤ (bs s).size; omega, ?_, ((i + 1 : Nat) : Int), wi, (i + 1, ln ++ [x], n, q, l, Sa), ⟨⟨?_, rfl⟩, rfl, Store.le_refl _⟩, ⟨hSa, hil, by show (ln ++ [x]).length ≤ i + 1; rw [List.length_append]; simp; omega, ?_, by show n ≤ i + 1 + 1; omega, by show l.length ≤ i + 1; omega, hl, hinv⟩, hmu⟩
      · show (bs ln).size + ((bs s).extract i (i + 1)).size ≤ _
        rw [bs_ext s i hx, bs_size, bs_size]; simp; omega
      · repeat' first | exact trivial | exact rfl | exact congrArg rS hext | refine And.intro ?_ ?_
      · intro hm
        rcases List.mem_append.1 hm with hm | hm
        · exact h10 hm
        · exact hx10 (List.mem_singleton.1 hm).symm
  · have hil : i = s.length := by
      have h : ¬ ((i : Nat) : Int) < ((bs s).size : Int) := of_decide_eq_false h
      omega
    rw [hil, List.drop_length, List.append_nil, Txt.pieces_miss h10, parseP_one] at hinv
    by_cases hl0 : ln = []
    · rw [if_pos hl0] at hinv
      refine offE (ntT (isE (v := []) hl0)) ⟨rfl, (q, 0, 0), rfl, ?_⟩
      rw [← hinv]; exact ⟨hl, rfl⟩
    · rw [if_neg hl0] at hinv
      refine onE (ntF (isN (v := []) hl0)) ⟨rfl, ((none, 0, 0), (n : Int), 5), rfl, ?_⟩
      rw [← hinv]; exact ⟨l_nil _, rfl⟩
end Go.Proofs.YtpeehenohdlfdaaGreatDoor
