/- law63: the program's Print. -/
import Derived.Test.YtikpdgjdeikinaaGreatDoorFr
import Derived.Test.YtikpdgjdeikinaaGreatDoorFq
namespace Go.Proofs.YtikpdgjdeikinaaGreatDoor
open Go Go.Vc Go.Sort
set_option maxRecDepth 100000
set_option maxHeartbeats 8000000

theorem strInts_app (a b : List UInt8) : strInts (bs (a ++ b)) = strInts (bs a) ++ strInts (bs b) := by simp [strInts, bs]
theorem bad_take {l : List Sc.Cmd} {i : Nat} {x : Sc.Cmd} (hx : l[i]? = some x) (h : ∀ p ∈ l.take i, Sc.checkR p = 0) (hc : Sc.checkR x ≠ 0) : Sc.badOf l = Sc.checkR x := by
  have key : ∀ (a b : List Sc.Cmd), (∀ p ∈ a, Sc.checkR p = 0) → Sc.badOf (a ++ b) = Sc.badOf b := by
    intro a
    induction a with
    | nil => intro b _; rfl
    | cons p a ih =>
      intro b h
      rw [List.cons_append, Sc.badOf, if_neg (by rw [h p (by simp)]; simp)]
      exact ih b fun q hq => h q (by simp [hq])
  have hl : l = l.take i ++ x :: l.drop (i + 1) := by
    have hil := (List.getElem?_eq_some_iff.1 hx).1
    conv => lhs; rw [← List.take_append_drop i l, List.drop_eq_getElem_cons hil]
    rw [(List.getElem?_eq_some_iff.1 hx).2]
  rw [hl, key _ _ h, Sc.badOf, if_pos hc]
@[reducible] def rSE (x : List UInt8 × Int) : SV := .tup [(false, [.v (.string (bs x.1))]), (false, [.v (.int .i64 x.2)])]
theorem print_spec (S : Store) (hL : Lw S) (q : Hd) (l : List Sc.Cmd) (hl : LIs S q l) (hn : l.length ≤ 1000000) (hnw : ∀ c ∈ l, c.2.2.1.length ≤ 1000000000) :
    Pure Tryz.prog 8 S [slV q] (A := Unit) (fun _ => rSE (Sc.printR l)) (fun _ _ => True) := by
  obtain ⟨L, rfl, hlen, hcap, hr, hK⟩ := hl
  obtain ⟨p, n, c⟩ := q
  have hlen : n = L.length := hlen
  subst hlen
  have hr : RowRd S p shC (L.map (·.1)) := hr
  rw [List.length_map] at hn
  refine pure_vc agrees Tryz.func8 rfl rfl (fun S S' q hle h => h) ?_
  have hlm : (L.map (·.2)).length = L.length := List.length_map _
  generalize hl : L.map (·.2) = l at *
  by_cases hbig : L.length > 1000
  · refine onE (decide_eq_true (by show ((L.length : Nat) : Int) > 1000; omega)) ⟨rfl, (), ?_, trivial⟩
    have e : Sc.printR l = ([], 15) := by unfold Sc.printR; rw [if_pos (by omega)]
    exact (congrArg rSE e).trans rfl
  refine offE (decide_eq_false (by show ¬ ((L.length : Nat) : Int) > 1000; omega)) fun b => ?_
  refine ⟨[], [(100000, .int .u8, 5)], Nat × Option Addr × Hd × Store, [5, 6, 7] ++ List.range' 14 29, fun a => [(13, rI a.1)], fun a => [bBox b a.2.1 a.2.2.1, .pool (.int .u8) 5 (bPool a.2.2.1 (strInts (bs (Sc.textOf (l.take a.1)))))], fun a => a.2.2.2,
    fun a => a.1 ≤ L.length ∧ S.le a.2.2.2 ∧ selfQ b a.2.1 ∧ okB a.2.2.1 (strInts (bs (Sc.textOf (l.take a.1)))) ∧ ∀ p ∈ l.take a.1, Sc.checkR p = 0, fun a => L.length - a.1, ?_⟩
  refine And.intro (Exists.intro (0, none, (none, 0, 0), S) (And.intro (And.intro (And.intro ?_ rfl) (And.intro rfl (Store.le_refl _))) ⟨Nat.zero_le _, Store.le_refl _, .inl rfl, ⟨rfl, fun _ => ⟨rfl, rfl⟩, fun h => absurd rfl h⟩, by simp⟩)) ?_
  · repeat' first | exact trivial | exact rfl | refine And.intro ?_ ?_
  rintro ⟨i, qq, v, Sa⟩ ⟨hi, hSa, hq, hv, hval⟩
  have hi : i ≤ L.length := hi
  have hSa : S.le Sa := hSa
  have hq : selfQ b qq := hq
  have hv : okB v (strInts (bs (Sc.textOf (l.take i)))) := hv
  have hval : ∀ p ∈ l.take i, Sc.checkR p = 0 := hval
  have i0 : (0 : Int) ≤ ((i : Nat) : Int) := Int.natCast_nonneg _
  have hLa := hL.le hSa
  have h64 : ∀ c ∈ l, ∀ k ∈ c.2.2.1, Sc.in64 k = true := fun c hc k hk => by
    rw [← hl] at hc
    obtain ⟨z, hz, rfl⟩ := List.mem_map.1 hc
    exact in64_iff.2 ((hK z hz).ns.ins k hk)
  have htl : (Sc.textOf (l.take i)).length ≤ 800 * L.length := by
    have := Sc.text_len (l.take i) hval fun c hc => h64 c (List.mem_of_mem_take hc)
    rw [List.length_take] at this
    omega
  refine And.intro (fun h => ?_) (fun h => ?_)
  · have hil : i < L.length := by
      have : ((i : Nat) : Int) < ((L.length : Nat) : Int) := of_decide_eq_true h
      omega
    obtain ⟨z, hz⟩ : ∃ z, L[i]? = some z := ⟨_, List.getElem?_eq_getElem hil⟩
    obtain ⟨bb, o, hp, hok, hrd⟩ := row_at (hr.le hSa) (i := i) (x := z.1) (by rw [List.getElem?_map, hz]; rfl)
    have hx : l[i]? = some z.2 := by rw [← hl, List.getElem?_map, hz]; rfl
    have hcz := hK z (List.mem_of_getElem? hz)
    obtain ⟨⟨xl, xo, ⟨np, nn, nc⟩, ⟨wp, wn, wc⟩⟩, ⟨cl, co, cn, cw⟩⟩ := z
    obtain rfl : xo = co := hcz.op
    have htk : l.take (i + 1) = l.take i ++ [(cl, xo, cn, cw)] := by rw [List.take_add_one, hx]; rfl
    refine ⟨i0, by show ((i : Nat) : Int) < (L.length : Int); omega, bb, o, hp, .inr ⟨(xl, xo, (np, nn, nc), (wp, wn, wc)), hok, fun S' hle _ => Store.rd_le hle hrd, ?_⟩⟩
    have hbad : Sc.checkR (cl, xo, cn, cw) ≠ 0 → Sc.printR l = ([], Sc.checkR (cl, xo, cn, cw)) := fun q => by
      have hb := bad_take hx hval q
      unfold Sc.printR
      rw [if_neg (by omega), if_pos (by rw [hb]; exact q), hb]
    refine ⟨or8_7, [], oF8_7, by kernel_rfl, ?_⟩
    by_cases h0 : xo < 0
    · have e2 : Sc.checkR (cl, xo, cn, cw) = 2 := by unfold Sc.checkR; rw [if_pos (.inl h0)]
      have e := hbad (by rw [e2]; decide)
      rw [e2] at e
      exact onE (decide_eq_true h0) (onT fun S2 hS2 hp2 => ⟨rfl, (), (congrArg rSE e).trans rfl, trivial⟩)
    refine offE (decide_eq_false h0) ⟨⟨_, rfl, rfl, rfl⟩, .inl ⟨_, _, _, shapes_spec Sa, fun S1 _ hS1 _ => ?_⟩⟩
    by_cases h16 : xo ≥ 16
    · have e2 : Sc.checkR (cl, xo, cn, cw) = 2 := by unfold Sc.checkR; rw [if_pos (.inr (by show 15 < xo; omega))]
      have e := hbad (by rw [e2]; decide)
      rw [e2] at e
      exact onE (decide_eq_true h16) fun S2 hS2 hp2 => ⟨rfl, (), (congrArg rSE e).trans rfl, trivial⟩
    refine offE (decide_eq_false h16) ?_
    refine ⟨or8_9, [], oF8_9, by kernel_rfl, ⟨_, rfl, rfl, rfl⟩, .inl ⟨_, _, _, shapes_spec S1, fun S2 hh hS2 hsh => ?_⟩⟩
    obtain ⟨sx, hsx⟩ : ∃ sx, (shpL hh)[xo.toNat]? = some sx := ⟨_, List.getElem?_eq_getElem (show xo.toNat < (shpL hh).length by show xo.toNat < 16; omega)⟩
    have hsi := hsh.2 xo.toNat sx hsx
    have hopn : ((xo.toNat : Nat) : Int) = xo := Int.toNat_of_nonneg (by omega)
    rw [hopn] at hsi
    have hcS2 : CIs S2 (xl, xo, (np, nn, nc), (wp, wn, wc)) (cl, xo, cn, cw) := (hcz.le hSa).le (Store.le_trans hS1 hS2)
    refine ⟨by show 0 ≤ xo; omega, by show xo < ((16 : Nat) : Int); omega, sx, cs_at (s := shS) (shpL hh) xo.toNat sx hsx, ⟨_, rfl, rfl, rfl⟩, .inl ⟨_, _, _, check_spec S2 sx xo hsi (np, nn, nc) (wp, wn, wc) cn cw hcS2.ns (hnw _ (List.mem_of_getElem? hx)) hcS2.ws, fun S3 e hS3 he => ?_⟩⟩
    have he : e = chkR xo cn cw := he
    rw [← check_chk cl xo (by omega) (by omega)] at he
    by_cases hc : e = 0
    · have hc0 : Sc.checkR (cl, xo, cn, cw) = 0 := he.symm.trans hc
      refine offE (bne_eq_false_iff_eq.2 hc) ⟨⟨_, rfl, rfl, rfl⟩, .inl ⟨_, _, _, line_spec S3 (hLa.le (Store.le_trans hS1 (Store.le_trans hS2 hS3))) (xl, xo, (np, nn, nc), (wp, wn, wc)) (cl, xo, cn, cw) (hcS2.le hS3) hc0, fun S4 _ hS4 _ => ?_⟩⟩
      have hll := Sc.line_len hc0 (h64 _ (List.mem_of_getElem? hx))
      have hne : Sc.lineR (cl, xo, cn, cw) ≠ [] := by unfold Sc.lineR; simp
      refine ⟨⟨_, rfl, rfl, rfl⟩, .inr (.inl ⟨[0, 1], _, _, _, _, rfl, write_spec S4 b qq v _ hq hv (Sc.lineR (cl, xo, cn, cw)) hne (by rw [strInts_len]; omega), fun S5 v' hS5 hv' => ?_⟩)⟩
      have hstr : strInts (bs (Sc.textOf (l.take (i + 1)))) = strInts (bs (Sc.textOf (l.take i))) ++ strInts (bs (Sc.lineR (cl, xo, cn, cw))) := by
        rw [htk, Sc.text_snoc, strInts_app]
      refine ⟨((i + 1 : Nat) : Int), wrap_i64 (by omega) (by omega), (i + 1, some ⟨b, 0, none⟩, v', S5), ⟨⟨?_, rfl⟩, ?_, Store.le_refl _⟩, ⟨hil, Store.le_trans hSa (Store.le_trans hS1 (Store.le_trans hS2 (Store.le_trans hS3 (Store.le_trans hS4 hS5)))), .inr rfl, ?_, ?_⟩, by show L.length - (i + 1) < L.length - i; omega⟩
      · repeat' first | exact trivial | exact rfl | refine And.intro ?_ ?_
      · show [bBox b (some ⟨b, 0, none⟩) v', Res.pool (.int .u8) 5 (bPool v' (strInts (bs (Sc.textOf (l.take i))) ++ strInts (bs (Sc.lineR (cl, xo, cn, cw)))))] = [bBox b (some ⟨b, 0, none⟩) v', Res.pool (.int .u8) 5 (bPool v' (strInts (bs (Sc.textOf (l.take (i + 1))))))]
        rw [hstr]
      · rw [hstr]; exact hv'
      · intro y hy
        rw [htk] at hy
        rcases List.mem_append.1 hy with hy | hy
        · exact hval y hy
        · rw [List.mem_singleton.1 hy]; exact hc0
    · have e2 := hbad (by rw [← he]; exact hc)
      rw [← he] at e2
      exact onE (bne_iff_ne.2 hc) fun S4 hS4 hp4 => ⟨rfl, (), (congrArg rSE e2).trans rfl, trivial⟩
  · have hil : i = L.length := by
      have : ¬ ((i : Nat) : Int) < ((L.length : Nat) : Int) := of_decide_eq_false h
      omega
    have htt : List.take i l = l := List.take_of_length_le (by omega)
    rw [htt] at hv hval
    have hv2 : v.2.1 = (Sc.textOf l).length := by rw [hv.1, strInts_len]
    have hb0 : Sc.badOf l = 0 := Sc.bad_all hval
    refine ⟨⟨_, rfl, rfl, rfl⟩, .inr (.inl ⟨[0], _, _, _, _, rfl, len_spec Sa b qq v, fun S1 _ hS1 _ => ?_⟩)⟩
    by_cases hlong : (Sc.textOf l).length > 65536
    · refine onE (decide_eq_true (by show ((v.2.1 : Nat) : Int) > 65536; rw [hv2]; omega)) fun S2 hS2 hp2 => ⟨rfl, (), ?_, trivial⟩
      have e : Sc.printR l = ([], 7) := by unfold Sc.printR; rw [if_neg (by omega), if_neg (by rw [hb0]; simp), if_pos hlong]
      exact (congrArg rSE e).trans rfl
    · refine offE (decide_eq_false (by show ¬ ((v.2.1 : Nat) : Int) > 65536; rw [hv2]; omega)) ?_
      have hstr := str_spec S1 b qq v (Sc.textOf l) hv
      rw [← htt] at hstr
      refine ⟨⟨_, rfl, rfl, rfl⟩, .inr (.inl ⟨[0, 1], _, _, _, _, rfl, hstr, fun S2 _ hS2 _ => ?_⟩)⟩
      refine ⟨rfl, (), ?_, trivial⟩
      rw [htt]
      have e : Sc.printR l = (Sc.textOf l, 0) := by unfold Sc.printR; rw [if_neg (by omega), if_neg (by rw [hb0]; simp), if_neg hlong]
      exact (congrArg rSE e).trans rfl
end Go.Proofs.YtikpdgjdeikinaaGreatDoor
