/- law57: lines: the program's told, the reference's Line; Text of both. -/
import Derived.Test.YtpeehenohdlfdaaGreatDoorFk
import Derived.Test.YtpeehenohdlfdaaGreatDoorFd
import Derived.Test.YtpeehenohdlfdaaGreatDoorFq
namespace Go.Proofs.YtpeehenohdlfdaaGreatDoor
open Go Go.Vc Go.Sort
set_option maxRecDepth 100000
set_option maxHeartbeats 4000000

/-- Numbers, each after a space. -/
def sp (ns : List Int) : Sc.Bs := ns.flatMap fun n => 32 :: Lib.itoa n
theorem sp_app (a b : List Int) : sp (a ++ b) = sp a ++ sp b := List.flatMap_append
theorem join_sp : ∀ (ns : List Int) (w : Sc.Bs), Txt.joinC 32 (w :: ns.map Lib.itoa) = w ++ sp ns
  | [], w => by simp [Txt.joinC, sp]
  | n :: ns, w => by
    rw [List.map_cons, Txt.joinC, join_sp ns (Lib.itoa n)]
    simp [sp]
theorem bare_call {e : Rc.Ev} (h : e.k = 0) : Rc.bare e = Rc.wCall ++ ((32 :: Lib.itoa e.t) ++ (32 :: Lib.itoa e.n)) ++ [32] ++ e.nm ++ sp e.as := by
  unfold Rc.bare Rc.wordsOf
  rw [if_pos h, Txt.joinC, Txt.joinC, Txt.joinC, join_sp]; simp
theorem bare_ans {e : Rc.Ev} (h : e.k = 1) : Rc.bare e = Rc.wAns ++ ((32 :: Lib.itoa e.t) ++ (32 :: Lib.itoa e.n)) ++ (32 :: Lib.itoa e.er) ++ (32 :: Lib.itoa e.va) := by
  unfold Rc.bare Rc.wordsOf
  rw [if_neg (by omega), if_pos h, Txt.joinC, Txt.joinC, Txt.joinC, Txt.joinC, Txt.joinC]; simp
theorem bare_com {e : Rc.Ev} (h : e.k = 2) : Rc.bare e = Rc.wCom ++ ((32 :: Lib.itoa e.t) ++ (32 :: Lib.itoa e.n)) := by
  unfold Rc.bare Rc.wordsOf
  rw [if_neg (by omega), if_neg (by omega), if_pos h, Txt.joinC, Txt.joinC, Txt.joinC]; simp
theorem bare_cra {e : Rc.Ev} (h0 : e.k ≠ 0) (h1 : e.k ≠ 1) (h2 : e.k ≠ 2) : Rc.bare e = Rc.wCra := by
  unfold Rc.bare Rc.wordsOf
  rw [if_neg h0, if_neg h1, if_neg h2]; rfl
theorem format_specT (S : Store) (hL : Lt S) (n : Int) (hn : inI64 n) : Pure Tryz.prog 58 S [.int .i64 n, .int .i64 10] (A := Unit) (fun _ => rS (bs (Lib.itoa n))) (fun _ _ => True) := by
  refine pure_old fun w hw => ?_
  refine (Tryz.strconv_FormatInt_10 n hn.1 hn.2 w (hL.is hw)).mono ?_
  rintro e w' ⟨rfl, k, os, rfl⟩
  exact ⟨_, (), rfl, ⟨rfl, rfl⟩, old_grow _ _ _, trivial⟩
/-- What ParseInt hands back: the number and nil, or whatever and an error. -/
theorem itoa_spec (S : Store) (hL : Lt S) (n : Int) (hn : inI64 n) : Pure Tryz.prog 88 S [.int .i64 n] (A := Unit) (fun _ => rS (bs (Lib.itoa n))) (fun _ _ => True) := by
  refine pure_old fun w hw => ?_
  refine (Tryz.strconv_Itoa n hn.1 hn.2 w (hL.is hw)).mono ?_
  rintro e w' ⟨rfl, k, os, rfl⟩
  exact ⟨_, (), rfl, ⟨rfl, rfl⟩, old_grow _ _ _, trivial⟩
theorem dec_spec (S : Store) (hL : Lt S) (n : Int) (hn : inI64 n) : Pure Tryz.prog 57 S [.int .i64 n] (A := Unit) (fun _ => rS (bs (Lib.itoa n))) (fun _ _ => True) := by
  refine pure_vc agrees Tryz.func57 rfl rfl (fun S S' q hle h => h) ?_
  exact ⟨⟨_, rfl, rfl, rfl⟩, .inl ⟨_, _, _, itoa_spec S hL n hn, fun S1 _ hS1 _ => ⟨rfl, (), rfl, trivial⟩⟩⟩
theorem line_spec (S : Store) (q : Hd) (ws : List Sc.Bs) (hw1 : ws ≠ []) (hl : q.2.1 = ws.length) (hc : q.2.1 ≤ q.2.2) (hr : RowRd S q.1 .str (ws.map bs)) (hlen : (Txt.joinC 32 ws).length ≤ 1000000) (hN : ws.length ≤ 1000000) :
    Pure Tryz.prog 59 S [slV q] (A := Unit) (fun _ => rS (bs (Txt.joinC 32 ws ++ [10]))) (fun _ _ => True) := by
  refine pure_vc agrees Tryz.func59 rfl rfl (fun S S' q hle h => h) ?_
  refine ⟨⟨_, rfl, rfl, rfl⟩, .inl ⟨_, _, _, join_spec S q ws hw1 hl hc hr (by omega) (by omega), fun S1 _ hS1 _ => ⟨?_, rfl, (), congrArg rS (bs_app _ _).symm, trivial⟩⟩⟩
  rw [bs_size]; show (Txt.joinC 32 ws).length + 1 ≤ _; omega
theorem okS (l : List ByteArray) : ∀ y ∈ l, Shape.str.ok y := fun _ _ => trivial
theorem told_spec (S : Store) (hL : Lt S) (x : Ex) (e : Rc.Ev) (hx : EIs S x e) (l : List Rc.Ev) (hv : Rc.Valid l e) : Pure Tryz.prog 32 S [vE x] (A := Unit) (fun _ => rS (bs (Rc.lineR e))) (fun _ _ => True) := by
  have hbl : (Rc.bare e).length ≤ 160 := by
    have := Rc.line_len hv hx.wide
    unfold Rc.lineR at this
    rw [List.length_append] at this; omega
  obtain ⟨w1, w2, w3, w4, w5⟩ := hx.wide
  obtain ⟨xk, xt, xn, ⟨xm, ap, an, ac⟩, xe, xv⟩ := x
  have hk : xk = e.k := hx.k
  obtain rfl : xt = e.t := hx.t
  obtain rfl : xn = e.n := hx.n
  obtain rfl : xm = bs e.nm := hx.nm
  obtain rfl : xe = e.er := hx.er
  obtain rfl : xv = e.va := hx.va
  have har : NsIs S (ap, an, ac) e.as := hx.ar
  obtain rfl : an = e.as.length := har.len
  have h4 : e.k = 0 → e.as.length ≤ 4 := fun h0 => by
    rcases hv.2 with ⟨-, -, -, -, -, h', -⟩ | ⟨h, -⟩ | ⟨h, -⟩ | h
    · exact h'
    · omega
    · omega
    · rw [h] at h0; cases h0
  refine pure_vc agrees Tryz.func32 rfl rfl (fun S S' q hle h => h) ?_
  by_cases h0 : e.k = 0
  · have h4 := h4 h0
    have hwd : Rc.wordsOf e = [Rc.wCall, Lib.itoa e.t, Lib.itoa e.n, e.nm] ++ e.as.map Lib.itoa := by unfold Rc.wordsOf; rw [if_pos h0]; rfl
    refine onE (beq_iff_eq.2 (hk.trans h0)) ?_
    refine ⟨or32_3, [], oF32_3, by kernel_rfl, ⟨_, rfl, rfl, rfl⟩, .inl ⟨_, _, _, dec_spec S hL e.t (in64_iff.1 w1), fun S1 _ hS1 _ => ?_⟩⟩
    refine ⟨⟨_, rfl, rfl, rfl⟩, .inl ⟨_, _, _, dec_spec S1 (hL.le hS1) e.n (in64_iff.1 w2), fun S2 _ hS2 _ => ?_⟩⟩
    have hL2 := (hL.le hS1).le hS2
    have hS02 := Store.le_trans hS1 hS2
    refine ⟨[], [], Nat, [5, 19] ++ List.range' 25 9, fun i => [(24, rI i)], fun i => [.box [.v (.int .i64 xk), .v (.int .i64 e.t), .v (.int .i64 e.n), .v (.string (bs e.nm)), .v (.slice ap e.as.length ac), .v (.int .i64 e.er), .v (.int .i64 e.va)], .row .str 9 ([bs Rc.wCall, bs (Lib.itoa e.t), bs (Lib.itoa e.n), bs e.nm] ++ ((e.as.take i).map Lib.itoa).map bs)], fun _ => S2, fun i => i ≤ e.as.length, fun i => e.as.length - i, ?_⟩
    refine And.intro (Exists.intro 0 (And.intro (And.intro (And.intro ?_ rfl) (And.intro rfl (Store.le_refl _))) (Nat.zero_le _))) ?_
    · repeat' first | exact trivial | exact rfl | refine And.intro ?_ ?_
    rintro i hi
    have hi : i ≤ e.as.length := hi
    have i0 : (0 : Int) ≤ ((i : Nat) : Int) := Int.natCast_nonneg _
    refine And.intro (fun q => ?_) (fun q => ?_)
    · have hil : i < e.as.length := by
        have : ((i : Nat) : Int) < ((e.as.length : Nat) : Int) := of_decide_eq_true q
        omega
      obtain ⟨n, hn⟩ : ∃ n, e.as[i]? = some n := ⟨_, List.getElem?_eq_getElem hil⟩
      obtain ⟨b, o, hpp, -, hrd⟩ := row_at (har.row.le hS02) hn
      have hn64 := har.ins n (List.mem_of_getElem? hn)
      have hst : ((e.as.take (i + 1)).map Lib.itoa).map bs = ((e.as.take i).map Lib.itoa).map bs ++ [bs (Lib.itoa n)] := by
        rw [List.take_add_one, hn, List.map_append, List.map_append]; rfl
      refine ⟨i0, by show ((i : Nat) : Int) < ((e.as.length : Nat) : Int); omega, b, o, hpp, n, trivial, hrd, ⟨_, rfl, rfl, rfl⟩, .inl ⟨_, _, _, format_specT S2 hL2 n hn64, fun S4 _ hS4 _ => ?_⟩⟩
      refine ⟨[bs (Lib.itoa n)], ⟨rfl, rfl⟩, okS _, by rw [List.length_append, List.length_map, List.length_map, List.length_take]; show (4 + min i e.as.length + 1) * 16 ≤ 140737488355328; omega, ((i + 1 : Nat) : Int), wrap_i64 (by omega) (by omega), i + 1, ⟨⟨?_, rfl⟩, ?_, hS4⟩, hil, by show e.as.length - (i + 1) < e.as.length - i; omega⟩
      · repeat' first | exact trivial | exact rfl | refine And.intro ?_ ?_
      · show [_, Res.row .str 9 _] = [_, Res.row .str 9 ([bs Rc.wCall, bs (Lib.itoa e.t), bs (Lib.itoa e.n), bs e.nm] ++ ((e.as.take (i + 1)).map Lib.itoa).map bs)]
        rw [hst]; rfl
    · have hil : i = e.as.length := by
        have : ¬ ((i : Nat) : Int) < ((e.as.length : Nat) : Int) := of_decide_eq_false q
        omega
      subst hil
      have htk : e.as.take e.as.length = e.as := List.take_length
      refine ⟨⟨_, rfl, rfl, rfl⟩, .inl fun p3 c3 S3 hS3 hr3 hpf3 => ?_⟩
      have hr3' : RowRd S3 p3 .str ([bs Rc.wCall, bs (Lib.itoa e.t), bs (Lib.itoa e.n), bs e.nm] ++ ((e.as.take e.as.length).map Lib.itoa).map bs) := hr3
      have hr4 : RowRd S3 p3 .str ((Rc.wordsOf e).map bs) := by rw [hwd, List.map_append]; rw [htk] at hr3'; exact hr3'
      have hlw : ([bs Rc.wCall, bs (Lib.itoa e.t), bs (Lib.itoa e.n), bs e.nm] ++ ((e.as.take e.as.length).map Lib.itoa).map bs).length = (Rc.wordsOf e).length := by rw [hwd, htk]; simp
      have hp3 : PForm p3 (([bs Rc.wCall, bs (Lib.itoa e.t), bs (Lib.itoa e.n), bs e.nm] ++ ((e.as.take e.as.length).map Lib.itoa).map bs).length) c3 := hpf3.1
      exact ⟨_, _, _, line_spec S3 (p3, _, c3) (Rc.wordsOf e) (Rc.words_ne e) hlw (pform_le hp3) hr4 (by show (Rc.bare e).length ≤ _; omega) (by rw [hwd, List.length_append, List.length_map]; show 4 + e.as.length ≤ _; omega), fun S5 _ hS5 _ => ⟨rfl, (), rfl, trivial⟩⟩
  refine offE (beq_eq_false_iff_ne.2 (show ¬ xk = 0 by omega)) ?_
  by_cases h1 : e.k = 1
  · have hwd : Rc.wordsOf e = [Rc.wAns, Lib.itoa e.t, Lib.itoa e.n, Lib.itoa e.er, Lib.itoa e.va] := by unfold Rc.wordsOf; rw [if_neg h0, if_pos h1]
    refine onE (beq_iff_eq.2 (hk.trans h1)) ?_
    refine ⟨or32_11, [1], [2, 5, 9, 13], by kernel_rfl, ⟨_, rfl, rfl, rfl⟩, .inl ⟨_, _, _, dec_spec S hL e.t (in64_iff.1 w1), fun S1 _ hS1 _ => ?_⟩⟩
    refine ⟨⟨_, rfl, rfl, rfl⟩, .inl ⟨_, _, _, dec_spec S1 (hL.le hS1) e.n (in64_iff.1 w2), fun S2 _ hS2 _ => ?_⟩⟩
    refine ⟨⟨_, rfl, rfl, rfl⟩, .inl ⟨_, _, _, dec_spec S2 ((hL.le hS1).le hS2) e.er (in64_iff.1 w4), fun S3 _ hS3 _ => ?_⟩⟩
    refine ⟨⟨_, rfl, rfl, rfl⟩, .inl ⟨_, _, _, format_specT S3 (((hL.le hS1).le hS2).le hS3) e.va (in64_iff.1 w5), fun S4 _ hS4 _ => ?_⟩⟩
    refine ⟨⟨_, rfl, rfl, rfl⟩, .inl fun p3 c3 S5 hS5 hr3 hpf3 => ?_⟩
    have hr4 : RowRd S5 p3 .str ((Rc.wordsOf e).map bs) := by rw [hwd]; exact hr3
    have hp3 : PForm p3 5 c3 := hpf3.1
    exact ⟨_, _, _, line_spec S5 (p3, 5, c3) (Rc.wordsOf e) (Rc.words_ne e) (by rw [hwd]; rfl) (pform_le hp3) hr4 (by show (Rc.bare e).length ≤ _; omega) (by rw [hwd]; show 5 ≤ _; omega), fun S6 _ hS6 _ => ⟨rfl, (), rfl, trivial⟩⟩
  refine offE (beq_eq_false_iff_ne.2 (show ¬ xk = 1 by omega)) ?_
  by_cases h2 : e.k = 2
  · have hwd : Rc.wordsOf e = [Rc.wCom, Lib.itoa e.t, Lib.itoa e.n] := by unfold Rc.wordsOf; rw [if_neg h0, if_neg h1, if_pos h2]
    refine onE (beq_iff_eq.2 (hk.trans h2)) ?_
    refine ⟨or32_13, [1], [2, 5], by kernel_rfl, ⟨_, rfl, rfl, rfl⟩, .inl ⟨_, _, _, dec_spec S hL e.t (in64_iff.1 w1), fun S1 _ hS1 _ => ?_⟩⟩
    refine ⟨⟨_, rfl, rfl, rfl⟩, .inl ⟨_, _, _, dec_spec S1 (hL.le hS1) e.n (in64_iff.1 w2), fun S2 _ hS2 _ => ?_⟩⟩
    refine ⟨⟨_, rfl, rfl, rfl⟩, .inl fun p3 c3 S5 hS5 hr3 hpf3 => ?_⟩
    have hr4 : RowRd S5 p3 .str ((Rc.wordsOf e).map bs) := by rw [hwd]; exact hr3
    have hp3 : PForm p3 3 c3 := hpf3.1
    exact ⟨_, _, _, line_spec S5 (p3, 3, c3) (Rc.wordsOf e) (Rc.words_ne e) (by rw [hwd]; rfl) (pform_le hp3) hr4 (by show (Rc.bare e).length ≤ _; omega) (by rw [hwd]; show 3 ≤ _; omega), fun S6 _ hS6 _ => ⟨rfl, (), rfl, trivial⟩⟩
  have hwd : Rc.wordsOf e = [Rc.wCra] := by unfold Rc.wordsOf; rw [if_neg h0, if_neg h1, if_neg h2]
  refine offE (beq_eq_false_iff_ne.2 (show ¬ xk = 2 by omega)) ⟨⟨_, rfl, rfl, rfl⟩, .inl fun p3 c3 S5 hS5 hr3 hpf3 => ?_⟩
  have hr4 : RowRd S5 p3 .str ((Rc.wordsOf e).map bs) := by rw [hwd]; exact hr3
  have hp3 : PForm p3 1 c3 := hpf3.1
  exact ⟨_, _, _, line_spec S5 (p3, 1, c3) (Rc.wordsOf e) (Rc.words_ne e) (by rw [hwd]; rfl) (pform_le hp3) hr4 (by show (Rc.bare e).length ≤ _; omega) (by rw [hwd]; show 1 ≤ _; omega), fun S6 _ hS6 _ => ⟨rfl, (), rfl, trivial⟩⟩
theorem sp_len : ∀ ns : List Int, (∀ n ∈ ns, inI64 n) → (sp ns).length ≤ 21 * ns.length
  | [], _ => by simp [sp]
  | n :: ns, h => by
    have h1 := sp_len ns fun k hk => h k (List.mem_cons_of_mem _ hk)
    have h2 := Rc.itoa_20 (in64_iff.2 (h n (by simp)))
    have : sp (n :: ns) = 32 :: Lib.itoa n ++ sp ns := rfl
    rw [this, List.length_append, List.length_cons, List.length_cons]; omega
theorem refLine_spec (S : Store) (x : Ex) (e : Rc.Ev) (hx : EIs S x e) (l : List Rc.Ev) (hv : Rc.Valid l e) : Pure Tryz.prog 34 S [vE x] (A := Unit) (fun _ => rS (bs (Rc.lineR e))) (fun _ _ => True) := by
  have hb0 := @bare_call e
  have hb1 := @bare_ans e
  have hb2 := @bare_com e
  have hb3 := @bare_cra e
  have hnm : e.nm.length ≤ 24 := by
    rcases hv.2 with ⟨-, -, -, -, h, -⟩ | ⟨-, -, -, h, -⟩ | ⟨-, -, -, h, -⟩ | h
    · exact (Sc.named_sep h).2.2.1
    · rw [h]; exact Nat.zero_le _
    · rw [h]; exact Nat.zero_le _
    · rw [h]; exact Nat.zero_le _
  have hkk : e.k = 0 ∨ e.k = 1 ∨ e.k = 2 ∨ e.k = 3 := by
    rcases hv.2 with ⟨h, -⟩ | ⟨h, -⟩ | ⟨h, -⟩ | h
    · exact .inl h
    · exact .inr (.inl h)
    · exact .inr (.inr (.inl h))
    · rw [h]; exact .inr (.inr (.inr rfl))
  obtain ⟨w1, w2, w3, w4, w5⟩ := hx.wide
  have l1 := Rc.itoa_20 w1
  have l2 := Rc.itoa_20 w2
  have l4 := Rc.itoa_20 w4
  have l5 := Rc.itoa_20 w5
  obtain ⟨xk, xt, xn, ⟨xm, ap, an, ac⟩, xe, xv⟩ := x
  have hk : xk = e.k := hx.k
  obtain rfl : xt = e.t := hx.t
  obtain rfl : xn = e.n := hx.n
  obtain rfl : xm = bs e.nm := hx.nm
  obtain rfl : xe = e.er := hx.er
  obtain rfl : xv = e.va := hx.va
  have har : NsIs S (ap, an, ac) e.as := hx.ar
  obtain rfl : an = e.as.length := har.len
  have h4 : e.k = 0 → e.as.length ≤ 4 := fun h0 => by
    rcases hv.2 with ⟨-, -, -, -, -, h', -⟩ | ⟨h, -⟩ | ⟨h, -⟩ | h
    · exact h'
    · omega
    · omega
    · rw [h] at h0; cases h0
  refine pure_vc agrees Tryz.func34 rfl rfl (fun S S' q hle h => h) ?_
  by_cases h3 : e.k = 3
  · refine onE (beq_iff_eq.2 (hk.trans h3)) ⟨rfl, (), ?_, trivial⟩
    unfold Rc.lineR
    rw [hb3 (by omega) (by omega) (by omega)]; rfl
  refine offE (beq_eq_false_iff_ne.2 (show ¬ xk = 3 by omega)) ?_
  refine ⟨or34_3, [], oF34_3, by kernel_rfl, ⟨_, rfl, rfl, rfl⟩, .inl ⟨_, _, _, Tens_spec S e.t (in64_iff.1 w1), fun S1 _ hS1 _ => ?_⟩⟩
  refine ⟨⟨_, rfl, rfl, rfl⟩, .inl ⟨_, _, _, Tens_spec S1 e.n (in64_iff.1 w2), fun S2 _ hS2 _ => ?_⟩⟩
  have hS02 := Store.le_trans hS1 hS2
  obtain ⟨tt, htt⟩ : ∃ tt : Sc.Bs, tt = (32 :: Lib.itoa e.t) ++ (32 :: Lib.itoa e.n) := ⟨_, rfl⟩
  have htl : tt.length ≤ 42 := by rw [htt, List.length_append, List.length_cons, List.length_cons]; omega
  refine ⟨by rw [bs_size, bs_size, List.length_cons, List.length_cons]; omega, ?_⟩
  rw [bs_app, ← htt]
  rw [← htt] at hb0 hb1 hb2
  by_cases h0 : e.k = 0
  · have h4 := h4 h0
    refine onE (beq_iff_eq.2 (hk.trans h0)) ⟨?_, ?_, ?_, ?_⟩
    · show 4 + (bs tt).size ≤ _
      rw [bs_size]; omega
    · show (bs Rc.wCall ++ bs tt).size + 1 ≤ _
      rw [bs_app, bs_size, List.length_append]; show 4 + tt.length + 1 ≤ _; omega
    · show (bs Rc.wCall ++ bs tt ++ bs [32]).size + (bs e.nm).size ≤ _
      rw [bs_app, bs_app, bs_size, bs_size, List.length_append, List.length_append]; show 4 + tt.length + 1 + e.nm.length ≤ _; omega
    have hpre : bs Rc.wCall ++ bs tt ++ bs [32] ++ bs e.nm = bs (Rc.wCall ++ tt ++ [32] ++ e.nm) := by rw [bs_app, bs_app, bs_app]
    obtain ⟨pr, hpr⟩ : ∃ pr : Sc.Bs, pr = Rc.wCall ++ tt ++ [32] ++ e.nm := ⟨_, rfl⟩
    have hprl : pr.length ≤ 100 := by rw [hpr, List.length_append, List.length_append, List.length_append]; show 4 + tt.length + 1 + e.nm.length ≤ 100; omega
    refine ⟨[], [], Nat, [3, 4] ++ List.range' 25 17, fun i => [(3, rS (bs (pr ++ sp (e.as.take i)))), (4, rI i)], fun _ => [.box [.v (.int .i64 xk), .v (.int .i64 e.t), .v (.int .i64 e.n), .v (.string (bs e.nm)), .v (.slice ap e.as.length ac), .v (.int .i64 e.er), .v (.int .i64 e.va)]], fun _ => S2, fun i => i ≤ e.as.length, fun i => e.as.length - i, ?_⟩
    refine And.intro (Exists.intro 0 (And.intro (And.intro (And.intro ?_ rfl) (And.intro rfl (Store.le_refl _))) (Nat.zero_le _))) ?_
    · rw [show bs (pr ++ sp (e.as.take 0)) = bs Rc.wCall ++ bs tt ++ bs [32] ++ bs e.nm by rw [hpre, ← hpr, List.take_zero]; simp [sp]]
      repeat' first | exact trivial | exact rfl | refine And.intro ?_ ?_
    rintro i hi
    have hi : i ≤ e.as.length := hi
    have i0 : (0 : Int) ≤ ((i : Nat) : Int) := Int.natCast_nonneg _
    have hs1 : (sp (e.as.take i)).length ≤ 84 := Nat.le_trans (sp_len (e.as.take i) fun k hk => har.ins k (List.mem_of_mem_take hk)) (by rw [List.length_take]; omega)
    refine And.intro (fun q => ?_) (fun q => ?_)
    · have hil : i < e.as.length := by
        have : ((i : Nat) : Int) < ((e.as.length : Nat) : Int) := of_decide_eq_true q
        omega
      obtain ⟨n, hn⟩ : ∃ n, e.as[i]? = some n := ⟨_, List.getElem?_eq_getElem hil⟩
      obtain ⟨b, o, hpp, -, hrd⟩ := row_at (har.row.le hS02) hn
      have hn64 := har.ins n (List.mem_of_getElem? hn)
      have hit := Rc.itoa_20 (in64_iff.2 hn64)
      have hst : pr ++ sp (e.as.take (i + 1)) = (pr ++ sp (e.as.take i)) ++ (32 :: Lib.itoa n) := by
        rw [List.take_add_one, hn, sp_app]; simp [sp]
      refine ⟨i0, by show ((i : Nat) : Int) < ((e.as.length : Nat) : Int); omega, b, o, hpp, n, trivial, hrd, ⟨_, rfl, rfl, rfl⟩, .inl ⟨_, _, _, Tens_spec S2 n hn64, fun S4 _ hS4 _ => ?_⟩⟩
      refine ⟨?_, ((i + 1 : Nat) : Int), wrap_i64 (by omega) (by omega), i + 1, ⟨⟨?_, rfl⟩, rfl, hS4⟩, hil, by show e.as.length - (i + 1) < e.as.length - i; omega⟩
      · rw [bs_size, bs_size, List.length_append, List.length_cons]; omega
      · rw [hst, ← bs_app (pr ++ sp (e.as.take i))]
        repeat' first | exact trivial | exact rfl | refine And.intro ?_ ?_
    · have hil : i = e.as.length := by
        have : ¬ ((i : Nat) : Int) < ((e.as.length : Nat) : Int) := of_decide_eq_false q
        omega
      subst hil
      have htk : e.as.take e.as.length = e.as := List.take_length
      refine ⟨?_, rfl, (), ?_, trivial⟩
      · show (bs (pr ++ sp (e.as.take e.as.length))).size + 1 ≤ _
        rw [bs_size, List.length_append]; omega
      · have e1 : Rc.lineR e = (pr ++ sp (e.as.take e.as.length)) ++ [10] := by unfold Rc.lineR; rw [hb0 h0, hpr, htk]
        rw [e1]; exact congrArg rS (bs_app _ _).symm
  refine offE (beq_eq_false_iff_ne.2 (show ¬ xk = 0 by omega)) ?_
  by_cases h1 : e.k = 1
  · refine onE (beq_iff_eq.2 (hk.trans h1)) ?_
    refine ⟨or34_12, [], oF34_12, by kernel_rfl, by show 6 + (bs tt).size ≤ _; rw [bs_size]; omega, ⟨_, rfl, rfl, rfl⟩, .inl ⟨_, _, _, Tens_spec S2 e.er (in64_iff.1 w4), fun S3 _ hS3 _ => ?_⟩⟩
    refine ⟨?_, ⟨_, rfl, rfl, rfl⟩, .inl ⟨_, _, _, Tens_spec S3 e.va (in64_iff.1 w5), fun S4 _ hS4 _ => ⟨?_, ?_, rfl, (), ?_, trivial⟩⟩⟩
    · show (bs Rc.wAns ++ bs tt).size + (bs (32 :: Lib.itoa e.er)).size ≤ _
      rw [bs_app, bs_size, bs_size, List.length_append, List.length_cons]; show 6 + tt.length + _ ≤ _; omega
    · show (bs Rc.wAns ++ bs tt ++ bs (32 :: Lib.itoa e.er)).size + (bs (32 :: Lib.itoa e.va)).size ≤ _
      rw [bs_app, bs_app, bs_size, bs_size, List.length_append, List.length_append, List.length_cons, List.length_cons]; show 6 + tt.length + _ + _ ≤ _; omega
    · show (bs Rc.wAns ++ bs tt ++ bs (32 :: Lib.itoa e.er) ++ bs (32 :: Lib.itoa e.va)).size + 1 ≤ _
      rw [bs_app, bs_app, bs_app, bs_size, List.length_append, List.length_append, List.length_append, List.length_cons, List.length_cons]; show 6 + tt.length + _ + _ + 1 ≤ _; omega
    · have e1 : bs (Rc.lineR e) = bs Rc.wAns ++ bs tt ++ bs (32 :: Lib.itoa e.er) ++ bs (32 :: Lib.itoa e.va) ++ bs [10] := by
        unfold Rc.lineR; rw [hb1 h1, bs_app, bs_app, bs_app, bs_app]
      rw [e1]; rfl
  have h2 : e.k = 2 := by omega
  refine offE (beq_eq_false_iff_ne.2 (show ¬ xk = 1 by omega)) ⟨by show 6 + (bs tt).size ≤ _; rw [bs_size]; omega, ?_, rfl, (), ?_, trivial⟩
  · show (bs Rc.wCom ++ bs tt).size + 1 ≤ _
    rw [bs_app, bs_size, List.length_append]; show 6 + tt.length + 1 ≤ _; omega
  · have e1 : bs (Rc.lineR e) = bs Rc.wCom ++ bs tt ++ bs [10] := by
      unfold Rc.lineR; rw [hb2 h2, bs_app, bs_app]
    rw [e1]; rfl
end Go.Proofs.YtpeehenohdlfdaaGreatDoor
