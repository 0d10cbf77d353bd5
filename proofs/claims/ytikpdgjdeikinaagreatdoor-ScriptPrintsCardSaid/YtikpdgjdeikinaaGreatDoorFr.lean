/- law63: the program's line. -/
import Derived.Test.YtikpdgjdeikinaaGreatDoorFn
namespace Go.Proofs.YtikpdgjdeikinaaGreatDoor
open Go Go.Vc Go.Sort
set_option maxRecDepth 100000
set_option maxHeartbeats 8000000

/-- The words of a line behind i numbers. -/
def wl (k L : Nat) (name : Sc.Bs) (ns : List Int) (w : Sc.Bs) (i : Nat) : List Sc.Bs := name :: ((ns.take (min i L)).map Lib.itoa ++ (if k = 2 ∧ L < i then [w] else []) ++ ((ns.take i).drop L).map Lib.itoa)
theorem wl_zero (k L : Nat) (name : Sc.Bs) (ns : List Int) (w : Sc.Bs) : wl k L name ns w 0 = [name] := by
  unfold wl
  rw [if_neg (by omega)]; simp
theorem wl_word {k L i : Nat} {name : Sc.Bs} {ns : List Int} {w : Sc.Bs} {n : Int} (hn : ns[i]? = some n) (hk : k = 2) (hi : i = L) : wl k L name ns w (i + 1) = wl k L name ns w i ++ [w] ++ [Lib.itoa n] := by
  subst hi
  have ht : ns.take (i + 1) = ns.take i ++ [n] := by rw [List.take_add_one, hn]; rfl
  have hl : (ns.take i).length = i := by rw [List.length_take]; have := (List.getElem?_eq_some_iff.1 hn).1; omega
  unfold wl
  rw [if_pos ⟨hk, by omega⟩, if_neg (by omega), Nat.min_self, Nat.min_eq_right (by omega), ht, List.drop_append, hl, Nat.sub_self, List.drop_eq_nil_of_le (by omega)]
  simp
theorem wl_num {k L i : Nat} {name : Sc.Bs} {ns : List Int} {w : Sc.Bs} {n : Int} (hn : ns[i]? = some n) (h : ¬ (k = 2 ∧ i = L)) : wl k L name ns w (i + 1) = wl k L name ns w i ++ [Lib.itoa n] := by
  have ht : ns.take (i + 1) = ns.take i ++ [n] := by rw [List.take_add_one, hn]; rfl
  have hl : (ns.take i).length = i := by rw [List.length_take]; have := (List.getElem?_eq_some_iff.1 hn).1; omega
  unfold wl
  rcases Nat.lt_or_ge i L with q | q
  · rw [if_neg (by omega), if_neg (by omega), Nat.min_eq_left (by omega), Nat.min_eq_left (by omega), ht, List.drop_append, hl, List.drop_eq_nil_of_le (by omega), List.drop_eq_nil_of_le (by simp; omega)]
    simp
  · have e : (if k = 2 ∧ L < i + 1 then [w] else []) = if k = 2 ∧ L < i then [w] else [] := by
      by_cases hk : k = 2
      · have : i ≠ L := fun e => h ⟨hk, e⟩
        rw [if_pos ⟨hk, by omega⟩, if_pos ⟨hk, by omega⟩]
      · rw [if_neg (fun z => hk z.1), if_neg (fun z => hk z.1)]
    rw [e, Nat.min_eq_right (by omega), Nat.min_eq_right q, ht, List.drop_append_of_le_length (by omega)]
    simp
theorem wl_end {c : Sc.Cmd} (h : Sc.checkR c = 0) {w : Sc.Bs} (hw : Sc.kindOf c.2.1 = 2 → c.2.2.2 = [w]) (h1 : Sc.kindOf c.2.1 ≠ 1) :
    Sc.wordsOf c = if Sc.kindOf c.2.1 = 2 ∧ c.2.2.1.length = Sc.leastOf c.2.1 then wl (Sc.kindOf c.2.1) (Sc.leastOf c.2.1) (Sc.nameOf c.2.1) c.2.2.1 w c.2.2.1.length ++ [w] else wl (Sc.kindOf c.2.1) (Sc.leastOf c.2.1) (Sc.nameOf c.2.1) c.2.2.1 w c.2.2.1.length := by
  obtain ⟨-, -, hl, -⟩ := Sc.check_ok h
  rcases Sc.words_cases h with ⟨hk, hws, e⟩ | ⟨hk, -⟩ | ⟨hk, v, hv, -, e⟩
  · rw [if_neg (by omega), e]
    unfold wl
    rw [if_neg (by omega), Nat.min_eq_right hl, List.take_length, List.append_nil, ← List.map_append, List.take_append_drop]
  · exact absurd hk h1
  · have : v = w := by have := hw hk; rw [hv] at this; exact (List.cons.inj this).1
    subst this
    rw [e]
    by_cases hq : c.2.2.1.length = Sc.leastOf c.2.1
    · rw [if_pos ⟨hk, hq⟩]
      unfold wl
      rw [if_neg (by omega), ← hq, Nat.min_self, List.take_length, List.drop_length]; simp
    · rw [if_neg (fun z => hq z.2)]
      unfold wl
      rw [if_pos ⟨hk, by omega⟩, Nat.min_eq_right hl, List.take_length]; simp
theorem words_ok {c : Sc.Cmd} (h : Sc.checkR c = 0) (hn : ∀ k ∈ c.2.2.1, Sc.in64 k = true) : (Sc.bare c).length ≤ 800 := by
  have := Sc.line_len h hn
  unfold Sc.lineR at this
  rw [List.length_append] at this; omega
theorem line_spec (S : Store) (hL : Lw S) (x : Cx) (c : Sc.Cmd) (hx : CIs S x c) (h : Sc.checkR c = 0) : Pure Tryz.prog 20 S [vC x] (A := Unit) (fun _ => rS (bs (Sc.lineR c))) (fun _ _ => True) := by
  obtain ⟨xl, xo, ⟨np, nn, nc⟩, wp, wn, wc⟩ := x
  obtain ⟨ln, op, ns, ws⟩ := c
  obtain ⟨-, e2, hns, hws⟩ := hx
  have e2 : xo = op := e2
  subst e2
  have hns : NsIs S (np, nn, nc) ns := hns
  have hws : WsIs S (wp, wn, wc) ws := hws
  have hnn : nn = ns.length := hns.len
  have hwn : wn = ws.length := hws.len
  subst hnn hwn
  obtain ⟨h0, h15, hl, hm, hf, -⟩ := Sc.check_ok h
  have h0 : 0 ≤ xo := h0
  have h15 : xo ≤ 15 := h15
  have hl : Sc.leastOf xo ≤ ns.length := hl
  have hm : ns.length ≤ Sc.leastOf xo + Sc.moreOf xo := hm
  have hf : Sc.fitsW (Sc.kindOf xo) ws = true := hf
  have hll := Sc.least_le xo
  have hml := more_le xo
  have hin : ∀ k ∈ ns, Sc.in64 k = true := fun k hk => in64_iff.2 (hns.ins k hk)
  have hbl := words_ok h hin
  refine pure_vc agrees Tryz.func20 rfl rfl (fun S S' q hle h => h) ?_
  refine ⟨or20_1, [1], oF20_1, by kernel_rfl, And.intro ?_ (And.intro ?_ trivial)⟩
  all_goals
    refine ⟨⟨_, rfl, rfl, rfl⟩, .inl ⟨_, _, _, shapes_spec S, fun S1 l hS1 hlS => ?_⟩⟩
    have hL1 := hL.le hS1
    obtain ⟨sx, hsx⟩ : ∃ sx, (shpL l)[xo.toNat]? = some sx := ⟨_, List.getElem?_eq_getElem (show xo.toNat < (shpL l).length by show xo.toNat < 16; omega)⟩
    have hsh := hlS.2 xo.toNat sx hsx
    have hopn : ((xo.toNat : Nat) : Int) = xo := Int.toNat_of_nonneg h0
    rw [hopn] at hsh
    refine ⟨h0, by show xo < ((16 : Nat) : Int); omega, sx, cs_at (s := shS) (shpL l) xo.toNat sx hsx, ?_⟩
    obtain ⟨x1, ⟨xp, xn, xc⟩, x3, x4⟩ := sx
    obtain ⟨hnm, ⟨hfl, -⟩, hmm, hkk⟩ := hsh
    have hnm : x1 = bs (Sc.nameOf xo) := hnm
    have hmm : x3 = (Sc.moreOf xo : Nat) := hmm
    have hkk : x4 = (Sc.kindOf xo : Nat) := hkk
    have hfl : xn = Sc.leastOf xo := hfl
    subst hnm hmm hkk hfl
    clear hsx hlS

    by_cases hk1 : Sc.kindOf xo = 1
    · obtain ⟨w, rfl, hpw⟩ := Sc.fits_one (hk1 ▸ hf)
      have ho := Sc.kind_one.1 hk1
      have e1 : Sc.leastOf xo = 0 := by rw [ho]; rfl
      have e2 : Sc.moreOf xo = 0 := by rw [ho]; rfl
      have hns0 : ns = [] := List.eq_nil_of_length_eq_zero (by omega)
      obtain ⟨b, o, hpp, -, hrd⟩ := row_at (hws.row.le hS1) (i := 0) rfl
      have hwl : w.length ≤ 255 := by unfold Sc.plainW at hpw; simp at hpw; exact hpw.1
      have hnl : (Sc.nameOf xo).length ≤ 7 := Sc.name_len h0 h15
      refine onE (beq_iff_eq.2 (show ((Sc.kindOf xo : Nat) : Int) = 1 by omega)) ?_
      refine ⟨or20_3, [], oF20_3, by kernel_rfl, ?_⟩
      refine ⟨by rw [bs_size]; show (Sc.nameOf xo).length + 1 ≤ _; omega, Int.le_refl _, by show (0 : Int) < ((1 : Nat) : Int); decide, b, o, hpp, bs w, trivial, hrd, ?_, ?_, rfl, (), ?_, trivial⟩
      · show (bs (Sc.nameOf xo) ++ bs [32]).size + (bs w).size ≤ _
        rw [bs_app, bs_size, bs_size, List.length_append]; simp; omega
      · show (bs (Sc.nameOf xo) ++ bs [32] ++ bs w).size + 1 ≤ _
        rw [bs_app, bs_app, bs_size, List.length_append, List.length_append]; simp; omega
      · have e : bs (Sc.lineR (ln, xo, ns, [w])) = bs (Sc.nameOf xo) ++ bs [32] ++ bs w ++ bs [10] := by
          rw [bs_app, bs_app, bs_app, hns0, ho]; rfl
        exact congrArg rS e
    refine offE (beq_eq_false_iff_ne.2 (show ¬ ((Sc.kindOf xo : Nat) : Int) = 1 by omega)) ?_
    obtain ⟨w, hwk⟩ : ∃ w, Sc.kindOf xo = 2 → ws = [w] := by
      by_cases hk2 : Sc.kindOf xo = 2
      · obtain ⟨w, hw, -⟩ := Sc.fits_two (hk2 ▸ hf); exact ⟨w, fun _ => hw⟩
      · exact ⟨[], fun q => absurd q hk2⟩
    have hend := wl_end h hwk hk1
    have hend : Sc.wordsOf (ln, xo, ns, ws) = if Sc.kindOf xo = 2 ∧ ns.length = Sc.leastOf xo then wl (Sc.kindOf xo) (Sc.leastOf xo) (Sc.nameOf xo) ns w ns.length ++ [w] else wl (Sc.kindOf xo) (Sc.leastOf xo) (Sc.nameOf xo) ns w ns.length := hend
    have hwl1 : ∀ i, (wl (Sc.kindOf xo) (Sc.leastOf xo) (Sc.nameOf xo) ns w i).length ≤ i + 2 := fun i => by
      unfold wl
      simp only [List.length_cons, List.length_append, List.length_map, List.length_take, List.length_drop]
      split <;> simp <;> omega
    have hnr := hns.row.le hS1
    refine ⟨[], [], Nat × Store, [5, 6, 25] ++ List.range' 30 27, fun a => [(29, rI a.1)], fun a => [.box [.v (.int .i64 xl), .v (.int .i64 xo), .v (.slice np ns.length nc), .v (.slice wp ws.length wc)], .box [.v (.string (bs (Sc.nameOf xo))), .v (.slice xp (Sc.leastOf xo) xc), .v (.int .i64 (Sc.moreOf xo : Nat)), .v (.int .i64 (Sc.kindOf xo : Nat))], .row .str 9 ((wl (Sc.kindOf xo) (Sc.leastOf xo) (Sc.nameOf xo) ns w a.1).map bs)], fun a => a.2, fun a => a.1 ≤ ns.length ∧ S1.le a.2, fun a => ns.length - a.1, ?_⟩
    refine And.intro (Exists.intro (0, S1) (And.intro (And.intro (And.intro ?_ rfl) (And.intro ?_ (Store.le_refl _))) ⟨Nat.zero_le _, Store.le_refl _⟩)) ?_
    · repeat' first | exact trivial | exact rfl | refine And.intro ?_ ?_
    · show _ = [_, _, Res.row .str 9 ((wl _ _ _ ns w 0).map bs)]
      rw [wl_zero]; rfl
    rintro ⟨i, Sa⟩ ⟨hi, hSa⟩
    have hi : i ≤ ns.length := hi
    have hSa : S1.le Sa := hSa
    have i0 : (0 : Int) ≤ ((i : Nat) : Int) := Int.natCast_nonneg _
    have hli := hwl1 i
    refine And.intro (fun q => ?_) (fun q => ?_)
    · have hil : i < ns.length := by
        have : ((i : Nat) : Int) < ((ns.length : Nat) : Int) := of_decide_eq_true q
        omega
      obtain ⟨n, hn⟩ : ∃ n, ns[i]? = some n := ⟨_, List.getElem?_eq_getElem hil⟩
      obtain ⟨b, o, hpp, -, hrd⟩ := row_at (hnr.le hSa) hn
      have hn64 := hns.ins n (List.mem_of_getElem? hn)
      have wi : IntKind.i64.wrap (((i : Nat) : Int) + 1) = ((i + 1 : Nat) : Int) := wrap_i64 (by omega) (by omega)
      refine ⟨i0, by show ((i : Nat) : Int) < ((ns.length : Nat) : Int); omega, b, o, hpp, n, trivial, hrd, ?_⟩
      by_cases hki : Sc.kindOf xo = 2 ∧ i = Sc.leastOf xo
      · obtain rfl := hwk hki.1
        obtain ⟨b2, o2, hp2, -, hrd2⟩ := row_at ((hws.row.le hS1).le hSa) (i := 0) rfl
        have hst := wl_word (name := Sc.nameOf xo) (w := w) hn hki.1 hki.2
        refine onE (beq_iff_eq.2 (show ((Sc.kindOf xo : Nat) : Int) = 2 by omega)) (onE (beq_iff_eq.2 (show ((i : Nat) : Int) = ((Sc.leastOf xo : Nat) : Int) by omega)) ⟨Int.le_refl _, by show (0 : Int) < ((1 : Nat) : Int); decide, b2, o2, hp2, bs w, trivial, hrd2, ?_⟩)
        refine ⟨[bs w], ⟨rfl, rfl⟩, okS _, by rw [List.length_map]; show ((wl (Sc.kindOf xo) (Sc.leastOf xo) (Sc.nameOf xo) ns w i).length + 1) * 16 ≤ 140737488355328; omega, ⟨_, rfl, rfl, rfl⟩, .inl ⟨_, _, _, format_spec Sa (hL1.le hSa) n hn64, fun S4 _ hS4 _ => ?_⟩⟩
        refine ⟨[bs (Lib.itoa n)], ⟨rfl, rfl⟩, okS _, by rw [List.length_append, List.length_map]; show ((wl (Sc.kindOf xo) (Sc.leastOf xo) (Sc.nameOf xo) ns w i).length + 1 + 1) * 16 ≤ 140737488355328; omega, ((i + 1 : Nat) : Int), wi, (i + 1, S4), ⟨⟨?_, rfl⟩, ?_, Store.le_refl _⟩, ⟨hil, Store.le_trans hSa hS4⟩, by show ns.length - (i + 1) < ns.length - i; omega⟩
        · repeat' first | exact trivial | exact rfl | refine And.intro ?_ ?_
        · show [_, _, Res.row .str 9 _] = [_, _, Res.row .str 9 ((wl _ _ _ ns w (i + 1)).map bs)]
          rw [hst, List.map_append, List.map_append]; rfl
      · have hst := wl_num (name := Sc.nameOf xo) (w := w) hn hki
        have key : ∀ (S4 : Store), Sa.le S4 → (wl (Sc.kindOf xo) (Sc.leastOf xo) (Sc.nameOf xo) ns w i).map bs ++ [bs (Lib.itoa n)] = (wl (Sc.kindOf xo) (Sc.leastOf xo) (Sc.nameOf xo) ns w (i + 1)).map bs := fun _ _ => by rw [hst, List.map_append]; rfl
        by_cases hk2 : Sc.kindOf xo = 2
        · refine onE (beq_iff_eq.2 (show ((Sc.kindOf xo : Nat) : Int) = 2 by omega)) (offE (beq_eq_false_iff_ne.2 (show ¬ ((i : Nat) : Int) = ((Sc.leastOf xo : Nat) : Int) from fun z => hki ⟨hk2, by omega⟩)) ⟨⟨_, rfl, rfl, rfl⟩, .inl ⟨_, _, _, format_spec Sa (hL1.le hSa) n hn64, fun S4 _ hS4 _ => ?_⟩⟩)
          refine ⟨[bs (Lib.itoa n)], ⟨rfl, rfl⟩, okS _, by rw [List.length_map]; show ((wl (Sc.kindOf xo) (Sc.leastOf xo) (Sc.nameOf xo) ns w i).length + 1) * 16 ≤ 140737488355328; omega, ((i + 1 : Nat) : Int), wi, (i + 1, S4), ⟨⟨?_, rfl⟩, ?_, Store.le_refl _⟩, ⟨hil, Store.le_trans hSa hS4⟩, by show ns.length - (i + 1) < ns.length - i; omega⟩
          · repeat' first | exact trivial | exact rfl | refine And.intro ?_ ?_
          · show [_, _, Res.row .str 9 _] = [_, _, Res.row .str 9 _]
            rw [← key S4 hS4]
        · refine offE (beq_eq_false_iff_ne.2 (show ¬ ((Sc.kindOf xo : Nat) : Int) = 2 by omega)) (onF ⟨⟨_, rfl, rfl, rfl⟩, .inl ⟨_, _, _, format_spec Sa (hL1.le hSa) n hn64, fun S4 _ hS4 _ => ?_⟩⟩)
          refine ⟨[bs (Lib.itoa n)], ⟨rfl, rfl⟩, okS _, by rw [List.length_map]; show ((wl (Sc.kindOf xo) (Sc.leastOf xo) (Sc.nameOf xo) ns w i).length + 1) * 16 ≤ 140737488355328; omega, ((i + 1 : Nat) : Int), wi, (i + 1, S4), ⟨⟨?_, rfl⟩, ?_, Store.le_refl _⟩, ⟨hil, Store.le_trans hSa hS4⟩, by show ns.length - (i + 1) < ns.length - i; omega⟩
          · repeat' first | exact trivial | exact rfl | refine And.intro ?_ ?_
          · show [_, _, Res.row .str 9 _] = [_, _, Res.row .str 9 _]
            rw [← key S4 hS4]
    · have hil : i = ns.length := by
        have : ¬ ((i : Nat) : Int) < ((ns.length : Nat) : Int) := of_decide_eq_false q
        omega
      subst hil
      have hjl : (Txt.joinC 32 (Sc.wordsOf (ln, xo, ns, ws))).length ≤ 1000000000 := by have : (Txt.joinC 32 (Sc.wordsOf (ln, xo, ns, ws))).length ≤ 800 := hbl; omega
      have fin : ∀ (S5 : Store), S5.le S5 → (bs (Txt.joinC 32 (Sc.wordsOf (ln, xo, ns, ws)))).size + 1 ≤ 9223372036854775807 := fun _ _ => by rw [bs_size]; omega
      by_cases hke : Sc.kindOf xo = 2 ∧ ns.length = Sc.leastOf xo
      · rw [if_pos hke] at hend
        obtain rfl := hwk hke.1
        obtain ⟨b2, o2, hp2, -, hrd2⟩ := row_at ((hws.row.le hS1).le hSa) (i := 0) rfl
        refine onE (beq_iff_eq.2 (show ((Sc.kindOf xo : Nat) : Int) = 2 by omega)) (onE (beq_iff_eq.2 (show ((ns.length : Nat) : Int) = ((Sc.leastOf xo : Nat) : Int) by omega)) ⟨Int.le_refl _, by show (0 : Int) < ((1 : Nat) : Int); decide, b2, o2, hp2, bs w, trivial, hrd2, ?_⟩)
        refine ⟨[bs w], ⟨rfl, rfl⟩, okS _, by rw [List.length_map]; show ((wl (Sc.kindOf xo) (Sc.leastOf xo) (Sc.nameOf xo) ns w ns.length).length + 1) * 16 ≤ 140737488355328; omega, ⟨_, rfl, rfl, rfl⟩, .inl fun p3 c3 S3 hS3 hr3 hpf3 => ?_⟩
        have hr4 : RowRd S3 p3 .str ((Sc.wordsOf (ln, xo, ns, [w])).map bs) := by rw [hend, List.map_append]; exact hr3
        exact ⟨_, _, _, join_spec S3 (p3, _, c3) (Sc.wordsOf (ln, xo, ns, [w])) (by simp [Sc.wordsOf]) (by show ((wl (Sc.kindOf xo) (Sc.leastOf xo) (Sc.nameOf xo) ns w ns.length).map bs ++ [bs w]).length = _; rw [hend, List.length_append, List.length_append, List.length_map]; rfl) (pform_le hpf3.1) hr4 hjl (by rw [hend, List.length_append]; simp; omega), fun S5 _ hS5 _ => ⟨fin S5 (Store.le_refl _), rfl, (), congrArg rS (bs_app _ _).symm, trivial⟩⟩
      · rw [if_neg hke] at hend
        have tail : ∀ (p3 : Option Addr) (c3 : Nat) (S3 : Store), RowRd S3 p3 .str ((wl (Sc.kindOf xo) (Sc.leastOf xo) (Sc.nameOf xo) ns w ns.length).map bs) → PForm p3 ((wl (Sc.kindOf xo) (Sc.leastOf xo) (Sc.nameOf xo) ns w ns.length).map bs).length c3 → Pure Tryz.prog 37 S3 [slV (p3, ((wl (Sc.kindOf xo) (Sc.leastOf xo) (Sc.nameOf xo) ns w ns.length).map bs).length, c3), .string (bs [32])] (A := Unit) (fun _ => rS (bs (Txt.joinC 32 (Sc.wordsOf (ln, xo, ns, ws))))) (fun _ _ => True) := fun p3 c3 S3 hr hp =>
          join_spec S3 (p3, _, c3) (Sc.wordsOf (ln, xo, ns, ws)) (by simp [Sc.wordsOf]) (by rw [hend, List.length_map]) (pform_le hp) (by rw [hend]; exact hr) hjl (by rw [hend]; omega)
        by_cases hk2 : Sc.kindOf xo = 2
        · exact onE (beq_iff_eq.2 (show ((Sc.kindOf xo : Nat) : Int) = 2 by omega)) (offE (beq_eq_false_iff_ne.2 (show ¬ ((ns.length : Nat) : Int) = ((Sc.leastOf xo : Nat) : Int) from fun z => hke ⟨hk2, by omega⟩)) ⟨⟨_, rfl, rfl, rfl⟩, .inl fun p3 c3 S3 hS3 hr3 hpf3 => ⟨_, _, _, tail p3 c3 S3 hr3 hpf3.1, fun S5 _ hS5 _ => ⟨fin S5 (Store.le_refl _), rfl, (), congrArg rS (bs_app _ _).symm, trivial⟩⟩⟩)
        · exact offE (beq_eq_false_iff_ne.2 (show ¬ ((Sc.kindOf xo : Nat) : Int) = 2 by omega)) (onF ⟨⟨_, rfl, rfl, rfl⟩, .inl fun p3 c3 S3 hS3 hr3 hpf3 => ⟨_, _, _, tail p3 c3 S3 hr3 hpf3.1, fun S5 _ hS5 _ => ⟨fin S5 (Store.le_refl _), rfl, (), congrArg rS (bs_app _ _).symm, trivial⟩⟩⟩)
end Go.Proofs.YtikpdgjdeikinaaGreatDoor
