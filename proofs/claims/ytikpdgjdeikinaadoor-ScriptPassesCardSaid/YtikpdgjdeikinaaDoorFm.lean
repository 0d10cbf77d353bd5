/- law63: the reference's Parse; of. -/
import Derived.Test.YtikpdgjdeikinaaDoorFl
namespace Go.Proofs.YtikpdgjdeikinaaDoor
open Go Go.Vc Go.Sort
set_option maxRecDepth 100000
set_option maxHeartbeats 8000000

theorem parse_tail : ∀ (ls : List Sc.Bs) (n : Nat) (acc : List Sc.Cmd), Sc.parseP n acc (ls ++ [[]]) = Sc.parseP n acc ls
  | [], n, acc => rfl
  | l :: ls, n, acc => by
    rw [List.cons_append, Sc.parse_cons, Sc.parse_cons, parse_tail ls, parse_tail ls]
theorem pieces_lf (s : Sc.Bs) : Txt.pieces 10 (s ++ [10]) = Txt.pieces 10 s ++ [[]] := by
  obtain ⟨A, z, h⟩ := Txt.pieces_last 10 s
  rw [Txt.pieces_snoc 10 10 s A z h, if_pos rfl, h]; simp
/-- The state of the loop: the place, the line, its number, the commands, the store. -/
abbrev Qz := Nat × Sc.Bs × Nat × List (Cx × Sc.Cmd) × Store
theorem refParse_spec (S : Store) (s : Sc.Bs) (hs : s.length ≤ 900000) : Pure Tryd.prog 10 S [.string (bs s)] rLE (fun S' x => PPost (Sc.parseR s) S' x) := by
  refine pure_vc agrees Tryd.func10 rfl rfl (fun S S' q hle h => h.le hle) ?_
  have hsz := bs_size s
  by_cases hbig : s.length > 65536
  · refine onE (decide_eq_true (by show ((bs s).size : Int) > 65536; omega)) ⟨rfl, ((none, 0, 0), 0, 7), rfl, ?_⟩
    unfold Sc.parseR; rw [if_pos hbig]
    exact ⟨rfl, l_nil S⟩
  refine offE (decide_eq_false (by show ¬ ((bs s).size : Int) > 65536; omega)) ?_
  have hR : Sc.parseR s = Sc.parseP 1 [] (Txt.pieces 10 s) := by unfold Sc.parseR; rw [if_neg hbig]
  rw [hR]
  have keep : ∀ s' : Sc.Bs, s' = s → s'.length ≤ 1000000 ∧ Sc.parseP 1 (([] : List (Cx × Sc.Cmd)).map (·.2)) (Txt.pieces 10 ([] ++ s'.drop 0)) = Sc.parseP 1 [] (Txt.pieces 10 s) := fun s' h => by subst h; exact ⟨by omega, rfl⟩
  by_cases hs0 : s = []
  · subst hs0
    refine offE rfl (onF ?_)
    refine ⟨[], [(5, shC, 47)], Unit, [9, 10] ++ List.range' 27 49, fun a => [(0, rS (bs [])), (6, rS (bs [])), (7, rI 1), (8, rI 0)], fun a => [.row shC 47 []], fun a => S, fun a => True, fun a => 0, ?_⟩
    refine And.intro (Exists.intro () (And.intro (And.intro (And.intro ?_ rfl) (And.intro rfl (Store.le_refl _))) trivial)) ?_
    · repeat' first | exact trivial | exact rfl | refine And.intro ?_ ?_
    rintro - -
    refine And.intro (fun h => absurd (of_decide_eq_true h) (by show ¬ (0 : Int) < 0; decide)) (fun h => ?_)
    intro p3 c3 S3 hS3 hr3 hpf3
    exact ⟨rfl, ((p3, 0, c3), 0, 0), rfl, rfl, [], rfl, rfl, pform_le hpf3.1, hr3, fun z hz => by cases hz⟩
  · have hl0 : 0 < s.length := by cases s with | nil => exact absurd rfl hs0 | cons _ _ => simp
    obtain ⟨z, hz⟩ : ∃ z, s[s.length - 1]? = some z := ⟨_, List.getElem?_eq_getElem (by omega)⟩
    refine onE (decide_eq_true (by show ((bs s).size : Int) > 0; omega)) ⟨((s.length - 1 : Nat) : Int), (by rw [wrap_i64 (by omega) (by omega)]; omega), Int.natCast_nonneg _, z, by rw [bs_get]; exact hz, ?_⟩
    by_cases hz10 : z = 10
    · subst hz10
      refine offE (by rfl) ?_
      have hlast : ∀ i x, s[i]? = some x → i + 1 = s.length → x = 10 := fun i x hx q => by
        have : i = s.length - 1 := by omega
        rw [this, hz] at hx; exact (Option.some.inj hx).symm
      obtain ⟨hle', hpar⟩ := keep s rfl
      have hsz' : (bs s).size = s.length := bs_size s
      refine ⟨[], [(5, shC, 47)], Qz, [9, 10] ++ List.range' 27 49, fun a => [(0, rS (bs s)), (6, rS (bs a.2.1)), (7, rI a.2.2.1), (8, rI a.1)], fun a => [.row shC 47 (a.2.2.2.1.map (·.1))], fun a => a.2.2.2.2,
        fun a => S.le a.2.2.2.2 ∧ a.1 ≤ s.length ∧ a.2.1.length ≤ a.1 ∧ 10 ∉ a.2.1 ∧ a.2.2.1 ≤ a.1 + 1 ∧ a.2.2.2.1.length ≤ 1000 ∧ (∀ z ∈ a.2.2.2.1, CIs a.2.2.2.2 z.1 z.2) ∧ (a.1 = s.length → a.2.1 = []) ∧ Sc.parseP a.2.2.1 (a.2.2.2.1.map (·.2)) (Txt.pieces 10 (a.2.1 ++ s.drop a.1)) = Sc.parseP 1 [] (Txt.pieces 10 s), fun a => s.length - a.1, ?_⟩
      refine And.intro (Exists.intro (0, [], 1, [], S) (And.intro (And.intro (And.intro ?_ rfl) (And.intro rfl (Store.le_refl _))) ⟨Store.le_refl _, Nat.zero_le _, Nat.le_refl _, (by simp), Nat.le_refl _, Nat.zero_le _, (by simp), fun _ => rfl, hpar⟩)) ?_
      · repeat' first | exact trivial | exact rfl | exact congrArg _ (bs_app _ _) | refine And.intro ?_ ?_
      rintro ⟨i, ln, n, L, Sa⟩ ⟨hSa, hi, hln, h10, hn, hL1k, hK, hend, hinv⟩
      have hSa : S.le Sa := hSa
      have hi : i ≤ s.length := hi
      have hln : ln.length ≤ i := hln
      have h10 : 10 ∉ ln := h10
      have hn : n ≤ i + 1 := hn
      have hL1k : L.length ≤ 1000 := hL1k
      have hK : ∀ z ∈ L, CIs Sa z.1 z.2 := hK
      have hend : i = s.length → ln = [] := hend
      have hinv : Sc.parseP n (L.map (·.2)) (Txt.pieces 10 (ln ++ s.drop i)) = Sc.parseP 1 [] (Txt.pieces 10 s) := hinv
      have i0 : (0 : Int) ≤ ((i : Nat) : Int) := Int.natCast_nonneg _
      refine And.intro (fun h => ?_) (fun h => ?_)
      · have hil : i < s.length := by
          have h : ((i : Nat) : Int) < ((bs s).size : Int) := of_decide_eq_true h
          omega
        obtain ⟨x, hx⟩ : ∃ x, s[i]? = some x := ⟨_, List.getElem?_eq_getElem hil⟩
        have hdr : s.drop i = x :: s.drop (i + 1) := by
          rw [List.getElem?_eq_getElem hil] at hx
          rw [← Option.some.inj hx, List.getElem_cons_drop]
        rw [hdr] at hinv
        have wi : IntKind.i64.wrap (((i : Nat) : Int) + 1) = ((i + 1 : Nat) : Int) := wrap_i64 (by omega) (by omega)
        have wn : IntKind.i64.wrap (((n : Nat) : Int) + 1) = ((n + 1 : Nat) : Int) := wrap_i64 (by omega) (by omega)
        have hmu : s.length - (i + 1) < s.length - i := by omega
        refine ⟨i0, x, by rw [bs_get]; exact hx, ?_⟩
        by_cases hx10 : x = 10
        · subst hx10
          rw [Txt.pieces_hit _ h10, Sc.parse_cons] at hinv
          refine offE (by rfl) ?_
          cases ln with
          | nil =>
            rw [if_pos (show Sc.skipR [] = true from rfl)] at hinv
            refine offE (ntT (isE rfl)) (onF ⟨((n + 1 : Nat) : Int), wn, ((i + 1 : Nat) : Int), wi, (i + 1, [], n + 1, L, Sa), ⟨⟨?_, rfl⟩, rfl, Store.le_refl _⟩, ⟨hSa, hil, Nat.zero_le _, (by simp), by show n + 1 ≤ i + 1 + 1; omega, hL1k, hK, fun _ => rfl, hinv⟩, hmu⟩)
            repeat' first | exact trivial | exact rfl | refine And.intro ?_ ?_
          | cons b l =>
            refine onE (ntF (isN (by simp))) ⟨Int.le_refl _, b, by rw [bs_get]; rfl, ?_⟩
            rw [skip_head] at hinv
            by_cases hb : b = 59
            · rw [if_pos (beq_iff_eq.2 hb)] at hinv
              refine offE (by rw [hb]; rfl) ⟨((n + 1 : Nat) : Int), wn, ((i + 1 : Nat) : Int), wi, (i + 1, [], n + 1, L, Sa), ⟨⟨?_, rfl⟩, rfl, Store.le_refl _⟩, ⟨hSa, hil, Nat.zero_le _, (by simp), by show n + 1 ≤ i + 1 + 1; omega, hL1k, hK, fun _ => rfl, hinv⟩, hmu⟩
              repeat' first | exact trivial | exact rfl | refine And.intro ?_ ?_
            rw [if_neg (fun q => hb (beq_iff_eq.1 q))] at hinv
            refine onE (bne_iff_ne.2 (beq_eq_false_iff_ne.1 (c59 hb))) ?_
            generalize hone : b :: l = one at *
            refine ⟨⟨_, rfl, rfl, rfl⟩, .inl ⟨_, _, _, refRead_spec Sa one (by omega), fun S4 x hS4 hx4 => ?_⟩⟩
            obtain ⟨⟨xl, xo, xn, xw⟩, e⟩ := x
            obtain ⟨hx1, hx2⟩ := hx4
            have hx1 : e = (Sc.readR one).2 := hx1
            by_cases he : e = 0
            · rw [if_neg (by rw [← hx1, he]; simp)] at hinv
              have hc : CIs S4 (xl, xo, xn, xw) (Sc.readR one).1 := hx2 (hx1.symm.trans he)
              refine onE (beq_iff_eq.2 he) ?_
              by_cases hf : L.length = 1000
              · rw [if_pos (by rw [List.length_map]; exact hf)] at hinv
                refine onE (beq_iff_eq.2 (show (((L.map (·.1)).length : Nat) : Int) = 1000 by rw [List.length_map]; omega)) (onE rfl ⟨rfl, ((none, 0, 0), (n : Int), 15), rfl, ?_⟩)
                rw [← hinv]
                exact ⟨rfl, l_nil _⟩
              · rw [if_neg (by rw [List.length_map]; exact hf)] at hinv
                refine offE (beq_eq_false_iff_ne.2 (show ¬ (((L.map (·.1)).length : Nat) : Int) = 1000 by rw [List.length_map]; omega)) (offE (bne_eq_false_iff_eq.2 he) ?_)
                refine ⟨[((n : Int), xo, xn, xw)], ⟨rfl, rfl⟩, okC _, by rw [List.length_map]; show (L.length + 1) * 64 ≤ 140737488355328; omega, ?_⟩
                refine ⟨((n + 1 : Nat) : Int), wn, ((i + 1 : Nat) : Int), wi, (i + 1, [], n + 1, L ++ [(((n : Int), xo, xn, xw), ((n : Int), (Sc.readR one).1.2))], S4), ⟨⟨?_, rfl⟩, ?_, Store.le_refl _⟩, ⟨Store.le_trans hSa hS4, hil, Nat.zero_le _, (by simp), by show n + 1 ≤ i + 1 + 1; omega, by show (L ++ [_]).length ≤ 1000; rw [List.length_append, List.length_singleton]; omega, fun z hz => ?_, fun _ => rfl, ?_⟩, hmu⟩
                · repeat' first | exact trivial | exact rfl | refine And.intro ?_ ?_
                · show [Res.row shC 47 _] = [Res.row shC 47 _]
                  rw [List.map_append]; rfl
                · rcases List.mem_append.1 hz with hz | hz
                  · exact (hK z hz).le hS4
                  · obtain rfl := List.mem_singleton.1 hz
                    exact ⟨rfl, hc.op, hc.ns, hc.ws⟩
                · show Sc.parseP (n + 1) (List.map (fun z : Cx × Sc.Cmd => z.2) (L ++ [(((n : Int), xo, xn, xw), ((n : Int), (Sc.readR one).1.2))])) (Txt.pieces 10 ([] ++ s.drop (i + 1))) = _
                  rw [List.map_append]
                  exact hinv
            · rw [if_pos (by rw [← hx1]; exact he)] at hinv
              refine offE (beq_eq_false_iff_ne.2 he) (onF (onE (bne_iff_ne.2 he) ⟨rfl, ((none, 0, 0), (n : Int), e), rfl, ?_⟩))
              rw [← hinv, ← hx1]
              exact ⟨rfl, l_nil _⟩
        · have hext : bs ln ++ (bs s).extract i (i + 1) = bs (ln ++ [x]) := by rw [bs_ext s i hx, bs_app]
          have e2 : ln ++ x :: s.drop (i + 1) = (ln ++ [x]) ++ s.drop (i + 1) := by simp
          rw [e2] at hinv
          refine onE (bne_iff_ne.2 fun q => hx10 (UInt8.toNat_inj.1 (show x.toNat = 10 by have q : (x.toNat : Int) = 10 := q; omega))) ?_
          refine ⟨((i + 1 : Nat) : Int), wi, i0, by omega, by show i ≤ i + 1; omega, by show i + 1 ≤ (bs s).size; omega, ?_, ((i + 1 : Nat) : Int), wi, (i + 1, ln ++ [x], n, L, Sa), ⟨⟨?_, rfl⟩, rfl, Store.le_refl _⟩, ⟨hSa, hil, by show (ln ++ [x]).length ≤ i + 1; rw [List.length_append]; simp; omega, ?_, by show n ≤ i + 1 + 1; omega, hL1k, hK, ?_, hinv⟩, hmu⟩
          · show (bs ln).size + ((bs s).extract i (i + 1)).size ≤ _
            rw [bs_ext s i hx, bs_size, bs_size]; simp; omega
          · repeat' first | exact trivial | exact rfl | exact congrArg rS hext | refine And.intro ?_ ?_
          · intro hm
            rcases List.mem_append.1 hm with hm | hm
            · exact h10 hm
            · exact hx10 (List.mem_singleton.1 hm).symm
          · intro q
            exfalso
            have q : i + 1 = s.length := q
            refine hx10 (hlast i x hx ?_)
            omega
      · have hil : i = s.length := by
          have h : ¬ ((i : Nat) : Int) < ((bs s).size : Int) := of_decide_eq_false h
          omega
        have hl0 := hend hil
        rw [hil, hl0, List.drop_length] at hinv
        have hinv : (L.map (·.2), 0, 0) = Sc.parseP 1 [] (Txt.pieces 10 s) := hinv
        intro p3 c3 S3 hS3 hr3 hpf3
        refine ⟨rfl, ((p3, (L.map (·.1)).length, c3), 0, 0), rfl, ?_⟩
        rw [← hinv]
        exact ⟨rfl, L, rfl, List.length_map _, pform_le hpf3.1, hr3, fun z hz => (hK z hz).le hS3⟩
    · refine onE (bne_iff_ne.2 fun q => hz10 (UInt8.toNat_inj.1 (show z.toNat = 10 by have q : (z.toNat : Int) = 10 := q; omega))) ⟨by rw [hsz]; show s.length + 1 ≤ _; omega, ?_⟩
      have hlast : ∀ i x, (s ++ [10])[i]? = some x → i + 1 = (s ++ [10]).length → x = 10 := fun i x hx q => by
        rw [List.length_append, List.length_singleton] at q
        rw [show i = s.length by omega, List.getElem?_append_right (Nat.le_refl _), Nat.sub_self] at hx
        exact (Option.some.inj hx).symm
      have hle' : (s ++ [10]).length ≤ 1000000 := by rw [List.length_append, List.length_singleton]; omega
      have hpar : Sc.parseP 1 (([] : List (Cx × Sc.Cmd)).map (·.2)) (Txt.pieces 10 ([] ++ (s ++ [10]).drop 0)) = Sc.parseP 1 [] (Txt.pieces 10 s) := by
        show Sc.parseP 1 [] (Txt.pieces 10 (s ++ [10])) = _
        rw [pieces_lf, parse_tail]
      have hsz' : (bs (s ++ [10])).size = (s ++ [10]).length := bs_size (s ++ [10])
      refine ⟨[], [(5, shC, 47)], Qz, [9, 10] ++ List.range' 27 49, fun a => [(0, rS (bs (s ++ [10]))), (6, rS (bs a.2.1)), (7, rI a.2.2.1), (8, rI a.1)], fun a => [.row shC 47 (a.2.2.2.1.map (·.1))], fun a => a.2.2.2.2,
        fun a => S.le a.2.2.2.2 ∧ a.1 ≤ (s ++ [10]).length ∧ a.2.1.length ≤ a.1 ∧ 10 ∉ a.2.1 ∧ a.2.2.1 ≤ a.1 + 1 ∧ a.2.2.2.1.length ≤ 1000 ∧ (∀ z ∈ a.2.2.2.1, CIs a.2.2.2.2 z.1 z.2) ∧ (a.1 = (s ++ [10]).length → a.2.1 = []) ∧ Sc.parseP a.2.2.1 (a.2.2.2.1.map (·.2)) (Txt.pieces 10 (a.2.1 ++ (s ++ [10]).drop a.1)) = Sc.parseP 1 [] (Txt.pieces 10 s), fun a => (s ++ [10]).length - a.1, ?_⟩
      refine And.intro (Exists.intro (0, [], 1, [], S) (And.intro (And.intro (And.intro ?_ rfl) (And.intro rfl (Store.le_refl _))) ⟨Store.le_refl _, Nat.zero_le _, Nat.le_refl _, (by simp), Nat.le_refl _, Nat.zero_le _, (by simp), fun _ => rfl, hpar⟩)) ?_
      · repeat' first | exact trivial | exact rfl | exact congrArg _ (bs_app _ _) | refine And.intro ?_ ?_
      rintro ⟨i, ln, n, L, Sa⟩ ⟨hSa, hi, hln, h10, hn, hL1k, hK, hend, hinv⟩
      have hSa : S.le Sa := hSa
      have hi : i ≤ (s ++ [10]).length := hi
      have hln : ln.length ≤ i := hln
      have h10 : 10 ∉ ln := h10
      have hn : n ≤ i + 1 := hn
      have hL1k : L.length ≤ 1000 := hL1k
      have hK : ∀ z ∈ L, CIs Sa z.1 z.2 := hK
      have hend : i = (s ++ [10]).length → ln = [] := hend
      have hinv : Sc.parseP n (L.map (·.2)) (Txt.pieces 10 (ln ++ (s ++ [10]).drop i)) = Sc.parseP 1 [] (Txt.pieces 10 s) := hinv
      have i0 : (0 : Int) ≤ ((i : Nat) : Int) := Int.natCast_nonneg _
      refine And.intro (fun h => ?_) (fun h => ?_)
      · have hil : i < (s ++ [10]).length := by
          have h : ((i : Nat) : Int) < ((bs (s ++ [10])).size : Int) := of_decide_eq_true h
          omega
        obtain ⟨x, hx⟩ : ∃ x, (s ++ [10])[i]? = some x := ⟨_, List.getElem?_eq_getElem hil⟩
        have hdr : (s ++ [10]).drop i = x :: (s ++ [10]).drop (i + 1) := by
          rw [List.getElem?_eq_getElem hil] at hx
          rw [← Option.some.inj hx, List.getElem_cons_drop]
        rw [hdr] at hinv
        have wi : IntKind.i64.wrap (((i : Nat) : Int) + 1) = ((i + 1 : Nat) : Int) := wrap_i64 (by omega) (by omega)
        have wn : IntKind.i64.wrap (((n : Nat) : Int) + 1) = ((n + 1 : Nat) : Int) := wrap_i64 (by omega) (by omega)
        have hmu : (s ++ [10]).length - (i + 1) < (s ++ [10]).length - i := by omega
        refine ⟨i0, x, by rw [bs_get]; exact hx, ?_⟩
        by_cases hx10 : x = 10
        · subst hx10
          rw [Txt.pieces_hit _ h10, Sc.parse_cons] at hinv
          refine offE (by rfl) ?_
          cases ln with
          | nil =>
            rw [if_pos (show Sc.skipR [] = true from rfl)] at hinv
            refine offE (ntT (isE rfl)) (onF ⟨((n + 1 : Nat) : Int), wn, ((i + 1 : Nat) : Int), wi, (i + 1, [], n + 1, L, Sa), ⟨⟨?_, rfl⟩, rfl, Store.le_refl _⟩, ⟨hSa, hil, Nat.zero_le _, (by simp), by show n + 1 ≤ i + 1 + 1; omega, hL1k, hK, fun _ => rfl, hinv⟩, hmu⟩)
            repeat' first | exact trivial | exact rfl | refine And.intro ?_ ?_
          | cons b l =>
            refine onE (ntF (isN (by simp))) ⟨Int.le_refl _, b, by rw [bs_get]; rfl, ?_⟩
            rw [skip_head] at hinv
            by_cases hb : b = 59
            · rw [if_pos (beq_iff_eq.2 hb)] at hinv
              refine offE (by rw [hb]; rfl) ⟨((n + 1 : Nat) : Int), wn, ((i + 1 : Nat) : Int), wi, (i + 1, [], n + 1, L, Sa), ⟨⟨?_, rfl⟩, rfl, Store.le_refl _⟩, ⟨hSa, hil, Nat.zero_le _, (by simp), by show n + 1 ≤ i + 1 + 1; omega, hL1k, hK, fun _ => rfl, hinv⟩, hmu⟩
              repeat' first | exact trivial | exact rfl | refine And.intro ?_ ?_
            rw [if_neg (fun q => hb (beq_iff_eq.1 q))] at hinv
            refine onE (bne_iff_ne.2 (beq_eq_false_iff_ne.1 (c59 hb))) ?_
            generalize hone : b :: l = one at *
            refine ⟨⟨_, rfl, rfl, rfl⟩, .inl ⟨_, _, _, refRead_spec Sa one (by omega), fun S4 x hS4 hx4 => ?_⟩⟩
            obtain ⟨⟨xl, xo, xn, xw⟩, e⟩ := x
            obtain ⟨hx1, hx2⟩ := hx4
            have hx1 : e = (Sc.readR one).2 := hx1
            by_cases he : e = 0
            · rw [if_neg (by rw [← hx1, he]; simp)] at hinv
              have hc : CIs S4 (xl, xo, xn, xw) (Sc.readR one).1 := hx2 (hx1.symm.trans he)
              refine onE (beq_iff_eq.2 he) ?_
              by_cases hf : L.length = 1000
              · rw [if_pos (by rw [List.length_map]; exact hf)] at hinv
                refine onE (beq_iff_eq.2 (show (((L.map (·.1)).length : Nat) : Int) = 1000 by rw [List.length_map]; omega)) (onE rfl ⟨rfl, ((none, 0, 0), (n : Int), 15), rfl, ?_⟩)
                rw [← hinv]
                exact ⟨rfl, l_nil _⟩
              · rw [if_neg (by rw [List.length_map]; exact hf)] at hinv
                refine offE (beq_eq_false_iff_ne.2 (show ¬ (((L.map (·.1)).length : Nat) : Int) = 1000 by rw [List.length_map]; omega)) (offE (bne_eq_false_iff_eq.2 he) ?_)
                refine ⟨[((n : Int), xo, xn, xw)], ⟨rfl, rfl⟩, okC _, by rw [List.length_map]; show (L.length + 1) * 64 ≤ 140737488355328; omega, ?_⟩
                refine ⟨((n + 1 : Nat) : Int), wn, ((i + 1 : Nat) : Int), wi, (i + 1, [], n + 1, L ++ [(((n : Int), xo, xn, xw), ((n : Int), (Sc.readR one).1.2))], S4), ⟨⟨?_, rfl⟩, ?_, Store.le_refl _⟩, ⟨Store.le_trans hSa hS4, hil, Nat.zero_le _, (by simp), by show n + 1 ≤ i + 1 + 1; omega, by show (L ++ [_]).length ≤ 1000; rw [List.length_append, List.length_singleton]; omega, fun z hz => ?_, fun _ => rfl, ?_⟩, hmu⟩
                · repeat' first | exact trivial | exact rfl | refine And.intro ?_ ?_
                · show [Res.row shC 47 _] = [Res.row shC 47 _]
                  rw [List.map_append]; rfl
                · rcases List.mem_append.1 hz with hz | hz
                  · exact (hK z hz).le hS4
                  · obtain rfl := List.mem_singleton.1 hz
                    exact ⟨rfl, hc.op, hc.ns, hc.ws⟩
                · show Sc.parseP (n + 1) (List.map (fun z : Cx × Sc.Cmd => z.2) (L ++ [(((n : Int), xo, xn, xw), ((n : Int), (Sc.readR one).1.2))])) (Txt.pieces 10 ([] ++ (s ++ [10]).drop (i + 1))) = _
                  rw [List.map_append]
                  exact hinv
            · rw [if_pos (by rw [← hx1]; exact he)] at hinv
              refine offE (beq_eq_false_iff_ne.2 he) (onF (onE (bne_iff_ne.2 he) ⟨rfl, ((none, 0, 0), (n : Int), e), rfl, ?_⟩))
              rw [← hinv, ← hx1]
              exact ⟨rfl, l_nil _⟩
        · have hext : bs ln ++ (bs (s ++ [10])).extract i (i + 1) = bs (ln ++ [x]) := by rw [bs_ext (s ++ [10]) i hx, bs_app]
          have e2 : ln ++ x :: (s ++ [10]).drop (i + 1) = (ln ++ [x]) ++ (s ++ [10]).drop (i + 1) := by simp
          rw [e2] at hinv
          refine onE (bne_iff_ne.2 fun q => hx10 (UInt8.toNat_inj.1 (show x.toNat = 10 by have q : (x.toNat : Int) = 10 := q; omega))) ?_
          refine ⟨((i + 1 : Nat) : Int), wi, i0, by omega, by show i ≤ i + 1; omega, by show i + 1 ≤ (bs (s ++ [10])).size; omega, ?_, ((i + 1 : Nat) : Int), wi, (i + 1, ln ++ [x], n, L, Sa), ⟨⟨?_, rfl⟩, rfl, Store.le_refl _⟩, ⟨hSa, hil, by show (ln ++ [x]).length ≤ i + 1; rw [List.length_append]; simp; omega, ?_, by show n ≤ i + 1 + 1; omega, hL1k, hK, ?_, hinv⟩, hmu⟩
          · show (bs ln).size + ((bs (s ++ [10])).extract i (i + 1)).size ≤ _
            rw [bs_ext (s ++ [10]) i hx, bs_size, bs_size]; simp; omega
          · repeat' first | exact trivial | exact rfl | exact congrArg rS hext | refine And.intro ?_ ?_
          · intro hm
            rcases List.mem_append.1 hm with hm | hm
            · exact h10 hm
            · exact hx10 (List.mem_singleton.1 hm).symm
          · intro q
            exfalso
            have q : i + 1 = (s ++ [10]).length := q
            refine hx10 (hlast i x hx ?_)
            omega
      · have hil : i = (s ++ [10]).length := by
          have h : ¬ ((i : Nat) : Int) < ((bs (s ++ [10])).size : Int) := of_decide_eq_false h
          omega
        have hl0 := hend hil
        rw [hil, hl0, List.drop_length] at hinv
        have hinv : (L.map (·.2), 0, 0) = Sc.parseP 1 [] (Txt.pieces 10 s) := hinv
        intro p3 c3 S3 hS3 hr3 hpf3
        refine ⟨rfl, ((p3, (L.map (·.1)).length, c3), 0, 0), rfl, ?_⟩
        rw [← hinv]
        exact ⟨rfl, L, rfl, List.length_map _, pform_le hpf3.1, hr3, fun z hz => (hK z hz).le hS3⟩
end Go.Proofs.YtikpdgjdeikinaaDoor
