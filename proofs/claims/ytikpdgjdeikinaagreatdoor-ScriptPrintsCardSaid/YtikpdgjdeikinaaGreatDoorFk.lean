/- law63: the reference's Check, Read. -/
import Derived.Test.YtikpdgjdeikinaaGreatDoorFj
namespace Go.Proofs.YtikpdgjdeikinaaGreatDoor
open Go Go.Vc Go.Sort
set_option maxRecDepth 100000
set_option maxHeartbeats 8000000

theorem fits_cnt {op : Int} {ws : List Sc.Bs} (h : (ws.length : Int) ≠ cntW op) : Sc.fitsW (Sc.kindOf op) ws = false := by
  unfold cntW at h
  unfold Sc.fitsW
  rcases Sc.kind_cases op with hk | hk | hk <;> rw [hk] at h ⊢
  · match ws with
    | [] => exact absurd rfl h
    | [w] => rfl
    | _ :: _ :: _ => rfl
  all_goals
    match ws with
    | [] => rfl
    | [w] => exact absurd rfl h
    | _ :: _ :: _ => rfl
theorem fits_zero {op : Int} {ws : List Sc.Bs} (h : (ws.length : Int) = cntW op) (hk : Sc.kindOf op = 0) : Sc.fitsW (Sc.kindOf op) ws = true ∧ ws = [] := by
  unfold cntW at h
  rw [if_pos hk] at h
  have : ws = [] := List.eq_nil_of_length_eq_zero (by omega)
  rw [this, hk]; exact ⟨rfl, rfl⟩
theorem fits_word {op : Int} {w : Sc.Bs} (hk : Sc.kindOf op ≠ 0) : Sc.fitsW (Sc.kindOf op) [w] = wordW op w := by
  unfold wordW
  rcases Sc.kind_cases op with h | h | h
  · exact absurd h hk
  · rw [h, if_pos (Sc.kind_one.1 h)]; simp [Sc.fitsW]
  · have : op ≠ 1 := fun q => by rw [Sc.kind_one.2 q] at h; cases h
    rw [h, if_neg this]; simp [Sc.fitsW]
theorem name_ne {op : Int} (h0 : 0 ≤ op) (h1 : op ≤ 15) : Sc.nameOf op ≠ [] := (Sc.name_low h0 h1).1
theorem refCheck_spec (S : Store) (x : Cx) (op : Int) (ns : List Int) (ws : List Sc.Bs) (hop : x.2.1 = op) (hn : NsIs S x.2.2.1 ns) (hnl : ns.length ≤ 1000000000) (hwl : x.2.2.2.2.1 = ws.length) (hwr : RowRd S x.2.2.2.1 .str (ws.map bs)) (hwf : ∀ w ∈ ws, w.length ≤ 1000000000) :
    Pure Tryz.prog 6 S [vC x] rI (fun _ e => e = Sc.checkR (0, op, ns, ws)) := by
  refine pure_vc agrees Tryz.func6 rfl rfl (fun S S' q hle h => h) ?_
  obtain ⟨xl, xo, ⟨np, nn, nc⟩, wp, wn, wc⟩ := x
  have hop : xo = op := hop
  subst hop
  have hwl : wn = ws.length := hwl
  subst hwl
  have hnn : nn = ns.length := hn.len
  subst hnn
  have hnr : RowRd S np shI ns := hn.row
  refine ⟨⟨_, rfl, rfl, rfl⟩, .inl ⟨_, _, _, refName_spec S xo, fun S1 _ hS1 _ => ?_⟩⟩
  by_cases ho : xo < 0 ∨ 15 < xo
  · refine onE (isE (name_out (by omega))) ⟨rfl, 2, rfl, ?_⟩
    unfold Sc.checkR
    exact (if_pos ho).symm
  have h0 : 0 ≤ xo := by omega
  have h15 : xo ≤ 15 := by omega
  have hll := Sc.least_le xo
  have hml := more_le xo
  rw [check_chk 0 xo h0 h15]
  refine offE (isN (name_ne h0 h15)) ⟨⟨_, rfl, rfl, rfl⟩, .inl ⟨_, _, _, few_spec S1 xo h0 h15, fun S2 _ hS2 _ => ?_⟩⟩
  refine ⟨or6_4, [], oF6_4, by kernel_rfl, ?_⟩
  by_cases h1 : ns.length < Sc.leastOf xo
  · refine onE (decide_eq_true (show ((ns.length : Nat) : Int) < ((Sc.leastOf xo : Nat) : Int) by omega)) (onT (onT (onT ⟨rfl, 5, rfl, ?_⟩)))
    unfold chkR; rw [if_pos (.inl h1)]
  refine offE (decide_eq_false (show ¬ ((ns.length : Nat) : Int) < ((Sc.leastOf xo : Nat) : Int) by omega)) ?_
  by_cases h2 : Sc.leastOf xo + Sc.moreOf xo < ns.length
  · refine onE (decide_eq_true (show ((ns.length : Nat) : Int) > ((Sc.leastOf xo + Sc.moreOf xo : Nat) : Int) by omega)) (onT (onT ⟨rfl, 5, rfl, ?_⟩))
    unfold chkR; rw [if_pos (.inr (.inl h2))]
  refine offE (decide_eq_false (show ¬ ((ns.length : Nat) : Int) > ((Sc.leastOf xo + Sc.moreOf xo : Nat) : Int) by omega)) ?_
  have h5 : Sc.fitsW (Sc.kindOf xo) ws = false → chkR xo ns ws = 5 := fun q => by unfold chkR; rw [if_pos (.inr (.inr q))]
  have h3 : Sc.fitsW (Sc.kindOf xo) ws = true → chkR xo ns ws = if Sc.rangeOk (Sc.bnds xo) ns = false then 3 else 0 := fun q => by
    unfold chkR; rw [if_neg]; rintro (z | z | z)
    · exact h1 z
    · exact h2 z
    · rw [q] at z; cases z
  by_cases hc : (ws.length : Int) = cntW xo
  · refine offE (bne_eq_false_iff_eq.2 hc) ?_
    by_cases hk : Sc.kindOf xo = 0
    · obtain ⟨f1, f2⟩ := fits_zero hc hk
      have e : cntW xo = 0 := if_pos hk
      refine offE (beq_eq_false_iff_ne.2 (by rw [e]; decide)) (onF ?_)
      refine ⟨⟨_, rfl, rfl, rfl⟩, .inl ⟨_, _, _, range_spec S2 (xl, xo, (np, ns.length, nc), wp, ws.length, wc) xo ns rfl h0 h15 (hn.le (Store.le_trans hS1 hS2)) (by omega), fun S4 _ hS4 _ => ?_⟩⟩
      rw [h3 f1]
      cases hr : Sc.rangeOk (Sc.bnds xo) ns with
      | false => exact onT ⟨rfl, 3, rfl, rfl⟩
      | true => exact onF ⟨rfl, 0, rfl, rfl⟩
    · have e : cntW xo = 1 := if_neg hk
      obtain ⟨w, rfl⟩ : ∃ w, ws = [w] := List.length_eq_one_iff.1 (by omega)
      obtain ⟨b, o, hp, -, hrd⟩ := row_at ((hwr.le hS1).le hS2) (i := 0) rfl
      have hf := fits_word (w := w) hk
      refine onE (beq_iff_eq.2 e) ⟨Int.le_refl _, by show (0 : Int) < ((1 : Nat) : Int); decide, b, o, hp, bs w, trivial, hrd, ⟨_, rfl, rfl, rfl⟩, .inl ⟨_, _, _, word_spec S2 xo w (hwf w (by simp)), fun S3 _ hS3 _ => ?_⟩⟩
      cases hw : wordW xo w with
      | false =>
        refine onT ⟨rfl, 5, rfl, (h5 (by rw [hf, hw])).symm⟩
      | true =>
        refine onF ?_
        refine ⟨⟨_, rfl, rfl, rfl⟩, .inl ⟨_, _, _, range_spec S3 (xl, xo, (np, ns.length, nc), wp, 1, wc) xo ns rfl h0 h15 (hn.le (Store.le_trans hS1 (Store.le_trans hS2 hS3))) (by omega), fun S4 _ hS4 _ => ?_⟩⟩
        rw [h3 (by rw [hf, hw])]
        cases hr : Sc.rangeOk (Sc.bnds xo) ns with
        | false => exact onT ⟨rfl, 3, rfl, rfl⟩
        | true => exact onF ⟨rfl, 0, rfl, rfl⟩
  · exact onE (bne_iff_ne.2 hc) (onT ⟨rfl, 5, rfl, (h5 (fits_cnt hc)).symm⟩)
end Go.Proofs.YtikpdgjdeikinaaGreatDoor
