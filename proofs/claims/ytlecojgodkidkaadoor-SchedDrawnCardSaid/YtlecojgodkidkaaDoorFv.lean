/- law07: Print. -/
import Derived.Test.YtlecojgodkidkaaDoorFu
import Derived.Test.YtlecojgodkidkaaDoorFw
namespace Go.Proofs.YtlecojgodkidkaaDoor
open Go Go.Vc
set_option maxRecDepth 100000

theorem joined_spec (S : Store) (p : Hd) (ws : List (List UInt8)) (hw1 : ws ≠ []) (hl : p.2.1 = ws.length) (hc : p.2.1 ≤ p.2.2) (hr : RowRd S p.1 .str (ws.map bs)) (hlen : (Txt.joinC 32 ws).length ≤ 1000000000) (hN : ws.length ≤ 1000000000) :
    Pure Tryd.prog 50 S [slV p] (A := Unit) (fun _ => rS (bs (Txt.joinC 32 ws ++ [10]))) (fun _ _ => True) := by
  refine pure_vc agrees Tryd.func50 rfl rfl (fun S S' q hle h => h) ?_
  refine ⟨⟨_, rfl, rfl, rfl⟩, .inl ⟨_, _, _, join_spec S p ws hw1 hl hc hr hlen hN, fun S1 _ hS1 _ => ?_⟩⟩
  refine ⟨by rw [bs_size]; show (Txt.joinC 32 ws).length + 1 ≤ _; omega, rfl, (), ?_, trivial⟩
  have e : bs (Txt.joinC 32 ws ++ [10]) = bs (Txt.joinC 32 ws) ++ bs [10] := (bs_app _ _).symm
  exact congrArg rS e
theorem okStr (x : ByteArray) : ∀ y ∈ [x], Shape.str.ok y := fun _ _ => trivial
theorem pform_le {p : Option Addr} {n c : Nat} (h : PForm p n c) : n ≤ c := by
  rcases h with ⟨_, h1, _⟩ | ⟨g, _, h⟩
  · omega
  · exact h
theorem line_spec (S : Store) (hL : Lw S) (p : Pk) (hp : checkR p = 0) : Pure Tryd.prog 35 S [vP p] (A := Unit) (fun _ => rS (bs (lineR p))) (fun _ _ => True) := by
  refine pure_vc agrees Tryd.func35 rfl rfl (fun S S' q hle h => h) ?_
  have hv := valid_parts hp
  have h64 := valid_64 hp
  have hll := line_len p h64.1.1 h64.2.1
  obtain ⟨k, th, ch⟩ := p
  simp only at hv h64
  have hk : k = 0 ∨ k = 1 ∨ k = 2 := by omega
  refine ⟨or35_1, [1], oF35_1, by kernel_rfl, ?_⟩
  rcases hk with rfl | rfl | rfl
  all_goals
    refine ⟨⟨⟨_, rfl, rfl, rfl⟩, .inl ⟨_, _, _, kinds_spec S, fun S1 _ hS1 _ => ?_⟩⟩, ⟨⟨_, rfl, rfl, rfl⟩, .inl ⟨_, _, _, kinds_spec S, fun S1 _ hS1 _ => ?_⟩⟩, trivial⟩
  all_goals first
    | refine ⟨by dsimp only; decide, by dsimp only; decide, (bs wStep, true, true), rfl, ?_⟩
    | refine ⟨by dsimp only; decide, by dsimp only; decide, (bs wStop, true, false), rfl, ?_⟩
    | refine ⟨by dsimp only; decide, by dsimp only; decide, (bs wCrash, false, true), rfl, ?_⟩
  iterate 2
    · refine onT ⟨⟨_, rfl, rfl, rfl⟩, .inl ⟨_, _, _, itoa_spec S1 (hL.le hS1) th h64.1.1, fun S2 _ hS2 _ => ⟨[bs (Lib.itoa th)], ⟨rfl, rfl⟩, okStr _, by show (1 + 1) * 16 ≤ 140737488355328; decide, ?_⟩⟩⟩
      refine onT ⟨⟨_, rfl, rfl, rfl⟩, .inl ⟨_, _, _, itoa_spec S2 ((hL.le hS1).le hS2) ch h64.2.1, fun S3 _ hS3 _ => ⟨[bs (Lib.itoa ch)], ⟨rfl, rfl⟩, okStr _, by show (2 + 1) * 16 ≤ 140737488355328; decide, ?_⟩⟩⟩
      refine ⟨⟨_, rfl, rfl, rfl⟩, .inl fun p3 c3 S4 hS4 hr4 hpf4 => ⟨_, _, _, joined_spec S4 (p3, 3, c3) [wStep, Lib.itoa th, Lib.itoa ch] (by simp) rfl (pform_le hpf4) hr4 ?_ (by simp), fun S5 _ hS5 _ => ⟨rfl, (), rfl, trivial⟩⟩⟩
      have : (Txt.joinC 32 [wStep, Lib.itoa th, Lib.itoa ch] ++ [10]).length ≤ 48 := hll
      rw [List.length_append] at this; omega
  iterate 2
    · refine onT ⟨⟨_, rfl, rfl, rfl⟩, .inl ⟨_, _, _, itoa_spec S1 (hL.le hS1) th h64.1.1, fun S2 _ hS2 _ => ⟨[bs (Lib.itoa th)], ⟨rfl, rfl⟩, okStr _, by show (1 + 1) * 16 ≤ 140737488355328; decide, ?_⟩⟩⟩
      refine onF ⟨⟨_, rfl, rfl, rfl⟩, .inl fun p3 c3 S4 hS4 hr4 hpf4 => ⟨_, _, _, joined_spec S4 (p3, 2, c3) [wStop, Lib.itoa th] (by simp) rfl (pform_le hpf4) hr4 ?_ (by simp), fun S5 _ hS5 _ => ⟨rfl, (), rfl, trivial⟩⟩⟩
      have : (Txt.joinC 32 [wStop, Lib.itoa th] ++ [10]).length ≤ 48 := hll
      rw [List.length_append] at this; omega
  iterate 2
    · refine onF (onT ⟨⟨_, rfl, rfl, rfl⟩, .inl ⟨_, _, _, itoa_spec S1 (hL.le hS1) ch h64.2.1, fun S2 _ hS2 _ => ⟨[bs (Lib.itoa ch)], ⟨rfl, rfl⟩, okStr _, by show (1 + 1) * 16 ≤ 140737488355328; decide, ?_⟩⟩⟩)
      refine ⟨⟨_, rfl, rfl, rfl⟩, .inl fun p3 c3 S4 hS4 hr4 hpf4 => ⟨_, _, _, joined_spec S4 (p3, 2, c3) [wCrash, Lib.itoa ch] (by simp) rfl (pform_le hpf4) hr4 ?_ (by simp), fun S5 _ hS5 _ => ⟨rfl, (), rfl, trivial⟩⟩⟩
      have : (Txt.joinC 32 [wCrash, Lib.itoa ch] ++ [10]).length ≤ 48 := hll
      rw [List.length_append] at this; omega
theorem strInts_app (a b : List UInt8) : strInts (bs (a ++ b)) = strInts (bs a) ++ strInts (bs b) := by simp [strInts, bs]
theorem bad_take {l : List Pk} {i : Nat} {x : Pk} (hx : l[i]? = some x) (h : ∀ p ∈ l.take i, checkR p = 0) (hc : checkR x ≠ 0) : badOf l = checkR x := by
  have key : ∀ (a b : List Pk), (∀ p ∈ a, checkR p = 0) → badOf (a ++ b) = badOf b := by
    intro a
    induction a with
    | nil => intro b _; rfl
    | cons p a ih =>
      intro b h
      rw [List.cons_append, badOf, if_neg (by rw [h p (by simp)]; simp)]
      exact ih b fun q hq => h q (by simp [hq])
  have hl : l = l.take i ++ x :: l.drop (i + 1) := by
    have hil := (List.getElem?_eq_some_iff.1 hx).1
    conv => lhs; rw [← List.take_append_drop i l, List.drop_eq_getElem_cons hil]
    rw [(List.getElem?_eq_some_iff.1 hx).2]
  rw [hl, key _ _ h, badOf, if_pos hc]
@[reducible] def rSE (x : List UInt8 × Int) : SV := .tup [(false, [.v (.string (bs x.1))]), (false, [.v (.int .i64 x.2)])]
set_option maxHeartbeats 2000000 in
theorem print_spec (S : Store) (hL : Lw S) (q : Hd) (l : List Pk) (hl : l.length = q.2.1) (hr : RowRd S q.1 shP l) (hn : l.length ≤ 1000000) :
    Pure Tryd.prog 23 S [slV q] (A := Unit) (fun _ => rSE (printR l)) (fun _ _ => True) := by
  obtain ⟨p, n, c⟩ := q
  simp only at hl hr
  subst hl
  refine pure_vc agrees Tryd.func23 rfl rfl (fun S S' q hle h => h) ?_
  by_cases hbig : l.length > 4096
  · refine onE (decide_eq_true (by show ((l.length : Nat) : Int) > 4096; omega)) ⟨rfl, (), (congrArg rSE (if_pos hbig)).trans rfl, trivial⟩
  refine offE (decide_eq_false (by show ¬ ((l.length : Nat) : Int) > 4096; omega)) fun b => ?_
  refine ⟨[], [(100000, .int .u8, 5)], Nat × Option Addr × Hd, [5, 6, 7] ++ List.range' 14 15, fun a => [(13, rI a.1)], fun a => [bBox b a.2.1 a.2.2, .pool (.int .u8) 5 (bPool a.2.2 (strInts (bs (textOf (l.take a.1)))))], fun _ => S,
    fun a => a.1 ≤ l.length ∧ selfQ b a.2.1 ∧ okB a.2.2 (strInts (bs (textOf (l.take a.1)))) ∧ ∀ p ∈ l.take a.1, checkR p = 0, fun a => l.length - a.1, ?_⟩
  refine And.intro (Exists.intro (0, none, (none, 0, 0)) (And.intro (And.intro (And.intro ?_ rfl) (And.intro rfl (Store.le_refl _))) ⟨Nat.zero_le _, .inl rfl, ⟨rfl, fun _ => ⟨rfl, rfl⟩, fun h => absurd rfl h⟩, by simp⟩)) ?_
  · repeat' first | exact trivial | exact rfl | refine And.intro ?_ ?_
  rintro ⟨i, qq, v⟩ ⟨hi, hq, hv, hval⟩
  simp only at hi hq hv hval
  have i0 : (0 : Int) ≤ ((i : Nat) : Int) := Int.natCast_nonneg _
  have htl : (textOf (l.take i)).length ≤ 48 * l.length := by
    have := text_len (l.take i) fun p hp => ⟨(valid_64 (hval p hp)).1.1, (valid_64 (hval p hp)).2.1⟩
    rw [List.length_take] at this
    omega
  refine And.intro (fun h => ?_) (fun h => ?_)
  · have hil : i < l.length := by
      have : ((i : Nat) : Int) < ((l.length : Nat) : Int) := of_decide_eq_true h
      omega
    obtain ⟨x, hx⟩ : ∃ x, l[i]? = some x := ⟨_, List.getElem?_eq_getElem hil⟩
    obtain ⟨bb, o, hp, hok, hrd⟩ := row_at hr hx
    have htk : l.take (i + 1) = l.take i ++ [x] := by rw [List.take_add_one, hx]; rfl
    refine ⟨i0, by show ((i : Nat) : Int) < (l.length : Int); omega, bb, o, hp, .inr ⟨x, hok, fun S' hle _ => Store.rd_le hle hrd, ?_⟩⟩
    refine ⟨⟨_, rfl, rfl, rfl⟩, .inl ⟨_, _, _, wrong_spec S x, fun S1 e hS1 he => ?_⟩⟩
    obtain rfl : e = checkR x := he
    by_cases hc : checkR x = 0
    · refine offE (by rw [hc]; rfl) ⟨⟨_, rfl, rfl, rfl⟩, .inl ⟨_, _, _, line_spec S1 (hL.le hS1) x hc, fun S2 _ hS2 _ => ?_⟩⟩
      have h64 := valid_64 hc
      have hll := line_len x h64.1.1 h64.2.1
      have hne : lineR x ≠ [] := by rw [line_bare]; simp
      refine ⟨⟨_, rfl, rfl, rfl⟩, .inr (.inl ⟨[0, 1], _, _, _, _, rfl, write_spec S2 b qq v _ hq hv (lineR x) hne (by rw [strInts_len]; omega), fun S3 v' hS3 hv' => ?_⟩)⟩
      have hstr : strInts (bs (textOf (l.take (i + 1)))) = strInts (bs (textOf (l.take i))) ++ strInts (bs (lineR x)) := by
        rw [htk, text_snoc, strInts_app]
      refine ⟨((i + 1 : Nat) : Int), wrap_i64 (by simp only; omega) (by simp only; omega), (i + 1, some ⟨b, 0, none⟩, v'), ⟨⟨?_, rfl⟩, ?_, Store.le_trans hS1 (Store.le_trans hS2 hS3)⟩, ⟨hil, .inr rfl, ?_, ?_⟩, by show l.length - (i + 1) < l.length - i; omega⟩
      · repeat' first | exact trivial | exact rfl | refine And.intro ?_ ?_
      · show [bBox b (some ⟨b, 0, none⟩) v', Res.pool (.int .u8) 5 (bPool v' (strInts (bs (textOf (l.take i))) ++ strInts (bs (lineR x))))] = [bBox b (some ⟨b, 0, none⟩) v', Res.pool (.int .u8) 5 (bPool v' (strInts (bs (textOf (l.take (i + 1))))))]
        rw [hstr]
      · rw [hstr]; exact hv'
      · intro y hy
        rw [htk] at hy
        rcases List.mem_append.1 hy with hy | hy
        · exact hval y hy
        · rw [List.mem_singleton.1 hy]; exact hc
    · have hb := bad_take hx hval hc
      refine onE (by simpa using hc) fun S2 hS2 hp2 => ⟨rfl, (), ?_, trivial⟩
      have e : printR l = ([], checkR x) := by rw [printR, if_neg hbig, if_pos (by rw [hb]; exact hc), hb]
      exact (congrArg rSE e).trans rfl
  · have hil : i = l.length := by
      have : ¬ ((i : Nat) : Int) < ((l.length : Nat) : Int) := of_decide_eq_false h
      omega
    subst hil
    have htt : List.take l.length l = l := List.take_length
    have hv2 : v.2.1 = (textOf (List.take l.length l)).length := by rw [hv.1, strInts_len]
    have hbad : badOf l = 0 := bad_all (by rw [htt] at hval; exact hval)
    refine ⟨⟨_, rfl, rfl, rfl⟩, .inr (.inl ⟨[0], _, _, _, _, rfl, len_spec S b qq v, fun S1 _ hS1 _ => ?_⟩)⟩
    by_cases hlong : (textOf l).length > 65536
    · refine onE (decide_eq_true (by show ((v.2.1 : Nat) : Int) > 65536; rw [hv2, htt]; omega)) fun S2 hS2 hp2 => ⟨rfl, (), ?_, trivial⟩
      have e : printR l = ([], 7) := by rw [printR, if_neg hbig, if_neg (by rw [hbad]; simp), if_pos hlong]
      exact (congrArg rSE e).trans rfl
    · refine offE (decide_eq_false (by show ¬ ((v.2.1 : Nat) : Int) > 65536; rw [hv2, htt]; omega)) ?_
      refine ⟨⟨_, rfl, rfl, rfl⟩, .inr (.inl ⟨[0, 1], _, _, _, _, rfl, str_spec S1 b qq v (textOf (List.take l.length l)) hv, fun S2 _ hS2 _ => ?_⟩)⟩
      refine ⟨rfl, (), ?_, trivial⟩
      have e : printR l = (textOf (List.take l.length l), 0) := by rw [printR, if_neg hbig, if_neg (by rw [hbad]; simp), if_neg hlong, htt]
      exact (congrArg rSE e).trans rfl
end Go.Proofs.YtlecojgodkidkaaDoor
