/- law63: the reference's Line; the law Prints. -/
import Derived.Test.YtikpdgjdeikinaaGreatDoorFt
namespace Go.Proofs.YtikpdgjdeikinaaGreatDoor
open Go Go.Vc Go.Sort
set_option maxRecDepth 100000
set_option maxHeartbeats 8000000

/-- Numbers, each after a space. -/
def sp (ns : List Int) : Sc.Bs := ns.flatMap fun n => 32 :: Lib.itoa n
theorem sp_app (a b : List Int) : sp (a ++ b) = sp a ++ sp b := List.flatMap_append
theorem join_sp : ∀ (ns : List Int) (w : Sc.Bs), Txt.joinC 32 (w :: ns.map Lib.itoa) = w ++ sp ns
  | [], w => by simp [Txt.joinC, sp]
  | n :: ns, w => by
    rw [List.map_cons, Txt.joinC, join_sp ns (Lib.itoa n)]
    simp [sp]
theorem kind_two {op : Int} : Sc.kindOf op = 2 ↔ op = 2 ∨ op = 10 := by
  unfold Sc.kindOf
  by_cases h1 : op = 1
  · rw [if_pos h1]; constructor
    · intro h; cases h
    · rintro (h | h) <;> omega
  rw [if_neg h1]
  by_cases h2 : op = 2 ∨ op = 10
  · rw [if_pos h2]; exact ⟨fun _ => h2, fun _ => rfl⟩
  · rw [if_neg h2]; exact ⟨fun h => by (cases h), fun h => absurd h h2⟩
theorem sp_len : ∀ ns : List Int, (∀ n ∈ ns, inI64 n) → (sp ns).length ≤ 21 * ns.length
  | [], _ => by simp [sp]
  | n :: ns, h => by
    have h1 := sp_len ns fun k hk => h k (List.mem_cons_of_mem _ hk)
    have h2 := itoa_len (h n (by simp))
    rw [bs_size] at h2
    have : sp (n :: ns) = 32 :: Lib.itoa n ++ sp ns := rfl
    rw [this, List.length_append, List.length_cons, List.length_cons]; omega
/-- What comes after the name, for each kind. -/
theorem line_zero {c : Sc.Cmd} (h : Sc.checkR c = 0) (h1 : c.2.1 ≠ 1) (h2 : c.2.1 ≠ 2) (h3 : c.2.1 ≠ 10) : Sc.lineR c = Sc.nameOf c.2.1 ++ sp c.2.2.1 ++ [10] := by
  unfold Sc.lineR Sc.bare
  rcases Sc.words_cases h with ⟨-, -, e⟩ | ⟨-, ho, -⟩ | ⟨hk, -⟩
  · rw [e, join_sp]
  · exact absurd ho h1
  · rcases kind_two.1 hk with q | q
    · exact absurd q h2
    · exact absurd q h3
theorem line_ten {c : Sc.Cmd} (h : Sc.checkR c = 0) (h3 : c.2.1 = 10) : ∃ w, c.2.2.2 = [w] ∧ w.length ≤ 1000 ∧ Sc.lineR c = Sc.nameOf c.2.1 ++ [32] ++ w ++ sp c.2.2.1 ++ [10] := by
  unfold Sc.lineR Sc.bare
  rcases Sc.words_cases h with ⟨hk, -⟩ | ⟨-, ho, -⟩ | ⟨hk, w, hw, hn, e⟩
  · rw [h3] at hk; cases hk
  · omega
  · have hl : Sc.leastOf c.2.1 = 0 := by rw [h3]; rfl
    refine ⟨w, hw, ?_, ?_⟩
    · unfold Sc.namedW at hn; simp at hn; omega
    · rw [e, hl, List.take_zero, List.drop_zero, List.map_nil, List.nil_append, Txt.joinC, join_sp]; simp
theorem line_two {c : Sc.Cmd} (h : Sc.checkR c = 0) (h3 : c.2.1 = 2) : ∃ w n ns, c.2.2.2 = [w] ∧ c.2.2.1 = n :: ns ∧ w.length ≤ 1000 ∧ Sc.lineR c = Sc.nameOf c.2.1 ++ (32 :: Lib.itoa n) ++ [32] ++ w ++ sp ns ++ [10] := by
  obtain ⟨-, -, hl, -⟩ := Sc.check_ok h
  unfold Sc.lineR Sc.bare
  rcases Sc.words_cases h with ⟨hk, -⟩ | ⟨-, ho, -⟩ | ⟨hk, w, hw, hn, e⟩
  · rw [h3] at hk; cases hk
  · omega
  · have hl1 : Sc.leastOf c.2.1 = 1 := by rw [h3]; rfl
    rw [hl1] at hl e
    cases hc : c.2.2.1 with
    | nil => rw [hc] at hl; simp at hl
    | cons n ns =>
      refine ⟨w, n, ns, hw, rfl, ?_, ?_⟩
      · unfold Sc.namedW at hn; simp at hn; omega
      · rw [e, hc]
        show Txt.joinC 32 (Sc.nameOf c.2.1 :: ([Lib.itoa n] ++ w :: ns.map Lib.itoa)) ++ [10] = _
        rw [List.singleton_append, Txt.joinC, Txt.joinC, join_sp]; simp
theorem few_nums {c : Sc.Cmd} (h : Sc.checkR c = 0) : c.2.2.1.length ≤ 10 ∧ (Sc.nameOf c.2.1).length ≤ 7 := by
  obtain ⟨h0, h15, hl, hm, -, -⟩ := Sc.check_ok h
  have := Sc.least_le c.2.1
  have := more_le c.2.1
  exact ⟨by omega, Sc.name_len h0 h15⟩

theorem refLine_spec (S : Store) (x : Cx) (c : Sc.Cmd) (hx : CIs S x c) (h : Sc.checkR c = 0) : Pure Tryz.prog 7 S [vC x] (A := Unit) (fun _ => rS (bs (Sc.lineR c))) (fun _ _ => True) := by
  obtain ⟨xl, xo, ⟨np, nn, nc⟩, wp, wn, wc⟩ := x
  obtain ⟨hfew, hnl⟩ := few_nums h
  have l0 := line_zero h
  have l1 := line_ten h
  have l2 := line_two h
  have hck := Sc.check_ok h
  obtain ⟨ln, op, ns, ws⟩ := c
  obtain ⟨-, e2, hns, hws⟩ := hx
  have e2 : xo = op := e2
  subst e2
  have hns : NsIs S (np, nn, nc) ns := hns
  have hws : WsIs S (wp, wn, wc) ws := hws
  have hnn : nn = ns.length := hns.len
  have hwn : wn = ws.length := hws.len
  subst hnn hwn
  have hfew : ns.length ≤ 10 := hfew
  have hnl : (Sc.nameOf xo).length ≤ 7 := hnl
  have hnr : RowRd S np shI ns := hns.row
  have hwr : RowRd S wp .str (ws.map bs) := hws.row
  have hin : ∀ n ∈ ns, inI64 n := hns.ins
  have hcap : ns.length ≤ nc := hns.cap
  refine pure_vc agrees Tryz.func7 rfl rfl (fun S S' q hle h => h) ?_
  refine ⟨⟨_, rfl, rfl, rfl⟩, .inl ⟨_, _, _, refName_spec S xo, fun S1 _ hS1 _ => ?_⟩⟩
  replace hnr := hnr.le hS1
  replace hwr := hwr.le hS1
  have hbn := bs_size (Sc.nameOf xo)
  by_cases h1 : xo = 1
  · obtain ⟨-, -, -, hm, hf, -⟩ := hck
    have hf : Sc.fitsW (Sc.kindOf xo) ws = true := hf
    have hm : ns.length ≤ Sc.leastOf xo + Sc.moreOf xo := hm
    rw [Sc.kind_one.2 h1] at hf
    obtain ⟨w, rfl, hpw⟩ := Sc.fits_one hf
    have e1 : Sc.leastOf xo = 0 := by rw [h1]; rfl
    have e2 : Sc.moreOf xo = 0 := by rw [h1]; rfl
    have hns0 : ns = [] := List.eq_nil_of_length_eq_zero (by omega)
    obtain ⟨b, o, hpp, -, hrd⟩ := row_at hwr (i := 0) rfl
    have hwl : w.length ≤ 255 := by unfold Sc.plainW at hpw; simp at hpw; exact hpw.1
    refine onE (beq_iff_eq.2 h1) ⟨by rw [bs_size]; show (Sc.nameOf xo).length + 1 ≤ _; omega, Int.le_refl _, by show (0 : Int) < ((1 : Nat) : Int); decide, b, o, hpp, bs w, trivial, hrd, ?_, ?_, rfl, (), ?_, trivial⟩
    · show (bs (Sc.nameOf xo) ++ bs [32]).size + (bs w).size ≤ _
      rw [bs_app, bs_size, bs_size, List.length_append]; simp; omega
    · show (bs (Sc.nameOf xo) ++ bs [32] ++ bs w).size + 1 ≤ _
      rw [bs_app, bs_app, bs_size, List.length_append, List.length_append]; simp; omega
    · have e : bs (Sc.lineR (ln, xo, ns, [w])) = bs (Sc.nameOf xo) ++ bs [32] ++ bs w ++ bs [10] := by
        rw [bs_app, bs_app, bs_app, hns0, h1]; rfl
      exact congrArg rS e
  refine offE (beq_eq_false_iff_ne.2 h1) ?_
  by_cases h2 : xo = 2
  · refine onE (beq_iff_eq.2 h2) ?_
    obtain ⟨w, n0, rest, hw, hn0, hwl, hline⟩ := l2 h2
    have hw : ws = [w] := hw
    have hn0 : ns = n0 :: rest := hn0
    subst hw hn0
    have hline : Sc.lineR (ln, xo, n0 :: rest, [w]) = Sc.nameOf xo ++ (32 :: Lib.itoa n0) ++ [32] ++ w ++ sp rest ++ [10] := hline
    obtain ⟨b, o, hpp, -, hrd⟩ := row_at hwr (i := 0) rfl
    obtain ⟨b1, o1, hpp1, -, hrd1⟩ := row_at hnr (i := 0) rfl
    have hn64 := hin n0 (by simp)
    have hit := itoa_len hn64
    rw [bs_size] at hit
    have hdr := hnr.drop (c := nc) (k := 1) (sz := 1) hcap rfl
    have hinr : ∀ n ∈ rest, inI64 n := fun n hn => hin n (List.mem_cons_of_mem _ hn)
    have hrl : rest.length ≤ 10 := by simp at hfew; omega
    refine ⟨or7_6, [], oF7_6, by kernel_rfl, ?_⟩
    refine ⟨Int.le_refl _, by show (0 : Int) < (((n0 :: rest).length : Nat) : Int); simp, b1, o1, hpp1, n0, trivial, hrd1, Int.le_refl _, by show (0 : Int) < ((1 : Nat) : Int); decide, b, o, hpp, bs w, trivial, hrd, ⟨_, rfl, rfl, rfl⟩, .inl ⟨_, _, _, Tens_spec S1 n0 hn64, fun S2 _ hS2 _ => ?_⟩⟩
    refine ⟨?_, ?_, ?_, ?_⟩
    · rw [bs_size, bs_size]; simp only [List.length_cons]; omega
    · show (bs (Sc.nameOf xo) ++ bs (32 :: Lib.itoa n0)).size + 1 ≤ _
      rw [bs_app, bs_size, List.length_append]; simp only [List.length_cons]; omega
    · show (bs (Sc.nameOf xo) ++ bs (32 :: Lib.itoa n0) ++ bs [32]).size + (bs w).size ≤ _
      rw [bs_app, bs_app, bs_size, bs_size, List.length_append, List.length_append]; simp only [List.length_cons, List.length_nil]; omega
    refine ⟨by decide, by show 1 ≤ (n0 :: rest).length; simp, hcap, ?_⟩
    refine offE (beq_eq_false_iff_ne.2 (show ¬ xo = 10 by omega)) ?_
    have hpre : ((Sc.nameOf xo ++ (32 :: Lib.itoa n0) ++ [32] ++ w)).length ≤ 1100 := by simp only [List.length_append, List.length_cons, List.length_nil]; omega
    refine ⟨[], [], Nat, [3, 5] ++ List.range' 49 13, fun i => [(3, rS (bs ((Sc.nameOf xo ++ (32 :: Lib.itoa n0) ++ [32] ++ w) ++ sp (rest.take i)))), (5, rI i)], fun _ => [.box [.v (.int .i64 xl), .v (.int .i64 xo), .v (.slice np (n0 :: rest).length nc), .v (.slice wp [w].length wc)]], fun _ => S2, fun i => i ≤ rest.length, fun i => rest.length - i, ?_⟩
    refine And.intro (Exists.intro 0 (And.intro (And.intro (And.intro ?_ rfl) (And.intro rfl (Store.le_refl _))) (Nat.zero_le _))) ?_
    · rw [show bs ((Sc.nameOf xo ++ (32 :: Lib.itoa n0) ++ [32] ++ w) ++ sp (rest.take 0)) = bs ((Sc.nameOf xo ++ (32 :: Lib.itoa n0) ++ [32] ++ w)) by rw [List.take_zero]; simp [sp]]
      first | (repeat' first | exact trivial | exact rfl | refine And.intro ?_ ?_)
    rintro i hi
    have hi : i ≤ rest.length := hi
    have i0 : (0 : Int) ≤ ((i : Nat) : Int) := Int.natCast_nonneg _
    refine And.intro (fun q => ?_) (fun q => ?_)
    · have hil : i < rest.length := by
        have : ((i : Nat) : Int) < ((rest.length : Nat) : Int) := of_decide_eq_true q
        omega
      obtain ⟨n, hn⟩ : ∃ n, rest[i]? = some n := ⟨_, List.getElem?_eq_getElem hil⟩
      obtain ⟨b, o, hpp, -, hrd⟩ := row_at (hdr.le hS2) hn
      have wi : IntKind.i64.wrap (((i : Nat) : Int) + 1) = ((i + 1 : Nat) : Int) := wrap_i64 (by omega) (by omega)
      have hn64 := hinr n (List.mem_of_getElem? hn)
      have hs1 : (sp (rest.take i)).length ≤ 210 := Nat.le_trans (sp_len (rest.take i) fun k hk => hinr k (List.mem_of_mem_take hk)) (by rw [List.length_take]; omega)
      have hit := itoa_len hn64
      rw [bs_size] at hit
      have hst : (Sc.nameOf xo ++ (32 :: Lib.itoa n0) ++ [32] ++ w) ++ sp (rest.take (i + 1)) = ((Sc.nameOf xo ++ (32 :: Lib.itoa n0) ++ [32] ++ w) ++ sp (rest.take i)) ++ (32 :: Lib.itoa n) := by
        rw [List.take_add_one, hn, sp_app]; simp [sp]
      refine ⟨i0, by show ((i : Nat) : Int) < ((rest.length : Nat) : Int); omega, b, o, hpp, n, trivial, hrd, ⟨_, rfl, rfl, rfl⟩, .inl ⟨_, _, _, Tens_spec _ n hn64, fun S4 _ hS4 _ => ?_⟩⟩
      refine ⟨?_, ((i + 1 : Nat) : Int), wi, i + 1, ⟨⟨?_, rfl⟩, rfl, hS4⟩, hil, by show rest.length - (i + 1) < rest.length - i; omega⟩
      · rw [bs_size, bs_size, List.length_append, List.length_cons]; omega
      · rw [hst, ← bs_app ((Sc.nameOf xo ++ (32 :: Lib.itoa n0) ++ [32] ++ w) ++ sp (rest.take i))]
        repeat' first | exact trivial | exact rfl | refine And.intro ?_ ?_
    · have hil : i = rest.length := by
        have : ¬ ((i : Nat) : Int) < ((rest.length : Nat) : Int) := of_decide_eq_false q
        omega
      subst hil
      have hs1 := sp_len rest hinr
      rw [List.take_length]
      refine ⟨?_, rfl, (), ?_, trivial⟩
      · rw [bs_size, List.length_append]; show _ + 1 ≤ _; omega
      · rw [hline]; exact congrArg rS (bs_app _ _).symm
  refine offE (beq_eq_false_iff_ne.2 h2) ?_
  by_cases h3 : xo = 10
  · obtain ⟨w, hw, hwl, hline⟩ := l1 h3
    have hw : ws = [w] := hw
    subst hw
    have hline : Sc.lineR (ln, xo, ns, [w]) = Sc.nameOf xo ++ [32] ++ w ++ sp ns ++ [10] := hline
    obtain ⟨b, o, hpp, -, hrd⟩ := row_at hwr (i := 0) rfl
    refine onE (beq_iff_eq.2 h3) ⟨by rw [bs_size]; show (Sc.nameOf xo).length + 1 ≤ _; omega, Int.le_refl _, by show (0 : Int) < ((1 : Nat) : Int); decide, b, o, hpp, bs w, trivial, hrd, ?_, ?_⟩
    · show (bs (Sc.nameOf xo) ++ bs [32]).size + (bs w).size ≤ _
      rw [bs_app, bs_size, bs_size, List.length_append]; simp; omega
    have hpre : ((Sc.nameOf xo ++ [32] ++ w)).length ≤ 1100 := by simp only [List.length_append, List.length_cons, List.length_nil]; omega
    refine ⟨[], [], Nat, [3, 5] ++ List.range' 49 13, fun i => [(3, rS (bs ((Sc.nameOf xo ++ [32] ++ w) ++ sp (ns.take i)))), (5, rI i)], fun _ => [.box [.v (.int .i64 xl), .v (.int .i64 xo), .v (.slice np ns.length nc), .v (.slice wp [w].length wc)]], fun _ => S1, fun i => i ≤ ns.length, fun i => ns.length - i, ?_⟩
    refine And.intro (Exists.intro 0 (And.intro (And.intro (And.intro ?_ rfl) (And.intro rfl (Store.le_refl _))) (Nat.zero_le _))) ?_
    · rw [show bs ((Sc.nameOf xo ++ [32] ++ w) ++ sp (ns.take 0)) = bs ((Sc.nameOf xo ++ [32] ++ w)) by rw [List.take_zero]; simp [sp]]
      first | (repeat' first | exact trivial | exact rfl | refine And.intro ?_ ?_)
    rintro i hi
    have hi : i ≤ ns.length := hi
    have i0 : (0 : Int) ≤ ((i : Nat) : Int) := Int.natCast_nonneg _
    refine And.intro (fun q => ?_) (fun q => ?_)
    · have hil : i < ns.length := by
        have : ((i : Nat) : Int) < ((ns.length : Nat) : Int) := of_decide_eq_true q
        omega
      obtain ⟨n, hn⟩ : ∃ n, ns[i]? = some n := ⟨_, List.getElem?_eq_getElem hil⟩
      obtain ⟨b, o, hpp, -, hrd⟩ := row_at hnr hn
      have wi : IntKind.i64.wrap (((i : Nat) : Int) + 1) = ((i + 1 : Nat) : Int) := wrap_i64 (by omega) (by omega)
      have hn64 := hin n (List.mem_of_getElem? hn)
      have hs1 : (sp (ns.take i)).length ≤ 210 := Nat.le_trans (sp_len (ns.take i) fun k hk => hin k (List.mem_of_mem_take hk)) (by rw [List.length_take]; omega)
      have hit := itoa_len hn64
      rw [bs_size] at hit
      have hst : (Sc.nameOf xo ++ [32] ++ w) ++ sp (ns.take (i + 1)) = ((Sc.nameOf xo ++ [32] ++ w) ++ sp (ns.take i)) ++ (32 :: Lib.itoa n) := by
        rw [List.take_add_one, hn, sp_app]; simp [sp]
      refine ⟨i0, by show ((i : Nat) : Int) < ((ns.length : Nat) : Int); omega, b, o, hpp, n, trivial, hrd, ⟨_, rfl, rfl, rfl⟩, .inl ⟨_, _, _, Tens_spec _ n hn64, fun S4 _ hS4 _ => ?_⟩⟩
      refine ⟨?_, ((i + 1 : Nat) : Int), wi, i + 1, ⟨⟨?_, rfl⟩, rfl, hS4⟩, hil, by show ns.length - (i + 1) < ns.length - i; omega⟩
      · rw [bs_size, bs_size, List.length_append, List.length_cons]; omega
      · rw [hst, ← bs_app ((Sc.nameOf xo ++ [32] ++ w) ++ sp (ns.take i))]
        repeat' first | exact trivial | exact rfl | refine And.intro ?_ ?_
    · have hil : i = ns.length := by
        have : ¬ ((i : Nat) : Int) < ((ns.length : Nat) : Int) := of_decide_eq_false q
        omega
      subst hil
      have hs1 := sp_len ns hin
      rw [List.take_length]
      refine ⟨?_, rfl, (), ?_, trivial⟩
      · rw [bs_size, List.length_append]; show _ + 1 ≤ _; omega
      · rw [hline]; exact congrArg rS (bs_app _ _).symm
  refine offE (beq_eq_false_iff_ne.2 h3) ?_
  have hline : Sc.lineR (ln, xo, ns, ws) = Sc.nameOf xo ++ sp ns ++ [10] := l0 h1 h2 h3
  have hpre : (Sc.nameOf xo).length ≤ 1100 := by omega
  refine ⟨[], [], Nat, [3, 5] ++ List.range' 49 13, fun i => [(3, rS (bs (Sc.nameOf xo ++ sp (ns.take i)))), (5, rI i)], fun _ => [.box [.v (.int .i64 xl), .v (.int .i64 xo), .v (.slice np ns.length nc), .v (.slice wp ws.length wc)]], fun _ => S1, fun i => i ≤ ns.length, fun i => ns.length - i, ?_⟩
  refine And.intro (Exists.intro 0 (And.intro (And.intro (And.intro ?_ rfl) (And.intro rfl (Store.le_refl _))) (Nat.zero_le _))) ?_
  · rw [show bs (Sc.nameOf xo ++ sp (ns.take 0)) = bs (Sc.nameOf xo) by rw [List.take_zero]; simp [sp]]
    first | (repeat' first | exact trivial | exact rfl | refine And.intro ?_ ?_)
  rintro i hi
  have hi : i ≤ ns.length := hi
  have i0 : (0 : Int) ≤ ((i : Nat) : Int) := Int.natCast_nonneg _
  refine And.intro (fun q => ?_) (fun q => ?_)
  · have hil : i < ns.length := by
      have : ((i : Nat) : Int) < ((ns.length : Nat) : Int) := of_decide_eq_true q
      omega
    obtain ⟨n, hn⟩ : ∃ n, ns[i]? = some n := ⟨_, List.getElem?_eq_getElem hil⟩
    obtain ⟨b, o, hpp, -, hrd⟩ := row_at hnr hn
    have wi : IntKind.i64.wrap (((i : Nat) : Int) + 1) = ((i + 1 : Nat) : Int) := wrap_i64 (by omega) (by omega)
    have hn64 := hin n (List.mem_of_getElem? hn)
    have hs1 : (sp (ns.take i)).length ≤ 210 := Nat.le_trans (sp_len (ns.take i) fun k hk => hin k (List.mem_of_mem_take hk)) (by rw [List.length_take]; omega)
    have hit := itoa_len hn64
    rw [bs_size] at hit
    have hst : Sc.nameOf xo ++ sp (ns.take (i + 1)) = (Sc.nameOf xo ++ sp (ns.take i)) ++ (32 :: Lib.itoa n) := by
      rw [List.take_add_one, hn, sp_app]; simp [sp]
    refine ⟨i0, by show ((i : Nat) : Int) < ((ns.length : Nat) : Int); omega, b, o, hpp, n, trivial, hrd, ⟨_, rfl, rfl, rfl⟩, .inl ⟨_, _, _, Tens_spec _ n hn64, fun S4 _ hS4 _ => ?_⟩⟩
    refine ⟨?_, ((i + 1 : Nat) : Int), wi, i + 1, ⟨⟨?_, rfl⟩, rfl, hS4⟩, hil, by show ns.length - (i + 1) < ns.length - i; omega⟩
    · rw [bs_size, bs_size, List.length_append, List.length_cons]; omega
    · rw [hst, ← bs_app (Sc.nameOf xo ++ sp (ns.take i))]
      repeat' first | exact trivial | exact rfl | refine And.intro ?_ ?_
  · have hil : i = ns.length := by
      have : ¬ ((i : Nat) : Int) < ((ns.length : Nat) : Int) := of_decide_eq_false q
      omega
    subst hil
    have hs1 := sp_len ns hin
    rw [List.take_length]
    refine ⟨?_, rfl, (), ?_, trivial⟩
    · rw [bs_size, List.length_append]; show _ + 1 ≤ _; omega
    · rw [hline]; exact congrArg rS (bs_app _ _).symm
end Go.Proofs.YtikpdgjdeikinaaGreatDoor
