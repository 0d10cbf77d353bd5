/- law63: the law Prints. -/
import Derived.Test.YtikpdgjdeikinaaGreatDoorFx
namespace Go.Proofs.YtikpdgjdeikinaaGreatDoor
open Go Go.Vc Go.Sort
set_option maxRecDepth 100000
set_option maxHeartbeats 8000000

theorem bad_snoc (x : Sc.Cmd) : ∀ l : List Sc.Cmd, Sc.badOf (l ++ [x]) = if Sc.badOf l ≠ 0 then Sc.badOf l else Sc.checkR x
  | [] => by
    show (if Sc.checkR x ≠ 0 then Sc.checkR x else 0) = if (0 : Int) ≠ 0 then 0 else Sc.checkR x
    rw [if_neg (show ¬ (0 : Int) ≠ 0 by simp)]
    by_cases h : Sc.checkR x = 0 <;> simp [h]
  | c :: l => by
    have ih := bad_snoc x l
    rw [List.cons_append]
    unfold Sc.badOf
    by_cases h : Sc.checkR c ≠ 0
    · rw [if_pos h, if_pos h, if_pos h]
    · rw [if_neg h, if_neg h, ih]
theorem law_prints (S : Store) (hL : Lw S) (q : Hd) (l : List Sc.Cmd) (hl : LRaw S q l) : Pure Tryz.prog 3 S [slV q] rB (fun _ b => b = true) := by
  refine pure_vc agrees Tryz.func3 rfl rfl (fun S S' q hle h => h) ?_
  refine ⟨⟨_, rfl, rfl, rfl⟩, .inl ⟨_, _, _, few_spec' S q l hl, fun S1 _ hS1 _ => ?_⟩⟩
  have hL1 := hL.le hS1
  cases hf : fewL l with
  | false => exact onT ⟨⟨_, rfl, rfl, rfl⟩, .inl ⟨_, _, _, awake_spec S1 hL1, fun S2 _ hS2 _ => ⟨rfl, true, rfl, rfl⟩⟩⟩
  | true =>
    refine onF ?_
    have hli := (few_is hl hf).le hS1
    obtain ⟨h60, hlo⟩ := few_parts hf
    have hli0 := hli
    obtain ⟨L, hLl, hlen, hcap, hr, hK⟩ := hli
    obtain ⟨p, n, c⟩ := q
    have hlen : n = L.length := hlen
    subst hlen
    have hr : RowRd S1 p shC (L.map (·.1)) := hr
    have hll : l.length = L.length := by rw [← hLl, List.length_map]
    have hin : ∀ c ∈ l, ∀ k ∈ c.2.2.1, Sc.in64 k = true := fun c hc k hk => by
      rw [← hLl] at hc
      obtain ⟨z, hz, rfl⟩ := List.mem_map.1 hc
      exact in64_iff.2 ((hK z hz).ns.ins k hk)
    refine ⟨[], [], Nat × Sc.Bs, [3, 4, 6, 15] ++ List.range' 16 14, fun a => [(3, rS (bs a.2)), (4, rI (Sc.badOf (l.take a.1))), (15, rI a.1)], fun _ => [], fun _ => S1, fun a => a.1 ≤ L.length ∧ (Sc.badOf (l.take a.1) = 0 → a.2 = Sc.textOf (l.take a.1)), fun a => L.length - a.1, ?_⟩
    refine And.intro (Exists.intro (0, []) (And.intro (And.intro (And.intro ?_ rfl) (And.intro rfl (Store.le_refl _))) ⟨Nat.zero_le _, fun _ => rfl⟩)) ?_
    · repeat' first | exact trivial | exact rfl | refine And.intro ?_ ?_
    rintro ⟨i, wv⟩ ⟨hi, hwv⟩
    have hi : i ≤ L.length := hi
    have hwv : Sc.badOf (l.take i) = 0 → wv = Sc.textOf (l.take i) := hwv
    have i0 : (0 : Int) ≤ ((i : Nat) : Int) := Int.natCast_nonneg _
    refine And.intro (fun h => ?_) (fun h => ?_)
    · have hil : i < L.length := by
        have : ((i : Nat) : Int) < ((L.length : Nat) : Int) := of_decide_eq_true h
        omega
      obtain ⟨z, hz⟩ : ∃ z, L[i]? = some z := ⟨_, List.getElem?_eq_getElem hil⟩
      have hzl : l[i]? = some z.2 := by rw [← hLl, List.getElem?_map, hz]; rfl
      obtain ⟨b, o, hp, hok, hrd⟩ := row_at hr (i := i) (x := z.1) (by rw [List.getElem?_map, hz]; rfl)
      have hzm := List.mem_of_getElem? hz
      have hcz := hK z hzm
      have htk : l.take (i + 1) = l.take i ++ [z.2] := by rw [List.take_add_one, hzl]; rfl
      have hbs : Sc.badOf (l.take (i + 1)) = if Sc.badOf (l.take i) ≠ 0 then Sc.badOf (l.take i) else Sc.checkR z.2 := by rw [htk, bad_snoc]
      have wi : IntKind.i64.wrap (((i : Nat) : Int) + 1) = ((i + 1 : Nat) : Int) := wrap_i64 (by omega) (by omega)
      have hlz := hlo z.2 (List.mem_of_getElem? hzl)
      obtain ⟨x, cz⟩ := z
      have hcz : CIs S1 x cz := hcz
      have hlz : cz.2.2.1.length ≤ 1000000 := hlz.1
      refine ⟨i0, by show ((i : Nat) : Int) < (L.length : Int); omega, b, o, hp, x, hok, hrd, ?_⟩
      by_cases hb : Sc.badOf (l.take i) = 0
      · rw [if_neg (by rw [hb]; simp)] at hbs
        have hbs : Sc.badOf (l.take (i + 1)) = Sc.checkR cz := hbs
        have hw := hwv hb
        refine onE (beq_iff_eq.2 hb) ⟨⟨_, rfl, rfl, rfl⟩, .inl ⟨_, _, _, refCheck_spec S1 x cz.2.1 cz.2.2.1 cz.2.2.2 hcz.op hcz.ns (by omega) hcz.ws.len hcz.ws.row hcz.ws.few, fun S2 e hS2 he => ?_⟩⟩
        have he : e = Sc.checkR cz := he
        by_cases he0 : e = 0
        · have hck : Sc.checkR cz = 0 := he.symm.trans he0
          refine onE (beq_iff_eq.2 he0) ⟨⟨_, rfl, rfl, rfl⟩, .inl ⟨_, _, _, refLine_spec S2 x cz (hcz.le hS2) hck, fun S3 _ hS3 _ => ?_⟩⟩
          have hti : (Sc.textOf (l.take i)).length ≤ 48000 := Nat.le_trans (Sc.text_len (l.take i) (fun c hc => Sc.all_bad hb c hc) (fun c hc => hin c (List.mem_of_mem_take hc))) (by rw [List.length_take]; omega)
          rw [← hw] at hti
          have hlc := Sc.line_len hck (hin cz (List.mem_of_getElem? hzl))
          refine ⟨?_, ((i + 1 : Nat) : Int), wi, (i + 1, Sc.textOf (l.take (i + 1))), ⟨⟨?_, rfl⟩, rfl, Store.le_trans hS2 hS3⟩, ⟨hil, fun _ => rfl⟩, by show L.length - (i + 1) < L.length - i; omega⟩
          · show (bs wv).size + (bs (Sc.lineR cz)).size ≤ _
            rw [bs_size, bs_size]; omega
          · rw [htk, Sc.text_snoc, ← bs_app, ← htk, hbs, ← he, hw]
            repeat' first | exact trivial | exact rfl | refine And.intro ?_ ?_
        · refine offE (beq_eq_false_iff_ne.2 he0) ⟨((i + 1 : Nat) : Int), wi, (i + 1, wv), ⟨⟨?_, rfl⟩, rfl, hS2⟩, ⟨hil, fun q => absurd (he.trans (hbs.symm.trans q)) he0⟩, by show L.length - (i + 1) < L.length - i; omega⟩
          rw [hbs, ← he]
          repeat' first | exact trivial | exact rfl | refine And.intro ?_ ?_
      · rw [if_pos hb] at hbs
        refine offE (beq_eq_false_iff_ne.2 hb) (offE (beq_eq_false_iff_ne.2 hb) ⟨((i + 1 : Nat) : Int), wi, (i + 1, wv), ⟨⟨?_, rfl⟩, rfl, Store.le_refl _⟩, ⟨hil, fun q => absurd (hbs.symm.trans q) hb⟩, by show L.length - (i + 1) < L.length - i; omega⟩)
        rw [hbs]
        repeat' first | exact trivial | exact rfl | refine And.intro ?_ ?_
    · have hil : i = L.length := by
        have : ¬ ((i : Nat) : Int) < ((L.length : Nat) : Int) := of_decide_eq_false h
        omega
      rw [show l.take i = l from by rw [hil, ← hll, List.take_length]] at hwv ⊢
      refine ⟨⟨_, rfl, rfl, rfl⟩, .inl ⟨_, _, _, print_spec S1 hL1 (p, L.length, c) l hli0 (by omega) (fun c hc => by have := (hlo c hc).1; omega), fun S2 _ hS2 _ => ?_⟩⟩
      have hL2 := hL1.le hS2
      by_cases hb : Sc.badOf l = 0
      · have hck := Sc.all_bad hb
        have htl := Sc.text_len l hck hin
        have hp : Sc.printR l = (Sc.textOf l, 0) := by
          unfold Sc.printR; rw [if_neg (by omega), if_neg (by rw [hb]; simp), if_neg (by omega)]
        rw [hp, hwv hb]
        refine offE (bne_eq_false_iff_eq.2 hb) (onE (beq_iff_eq.2 hb.symm) (onE (by rw [bsq]; exact decide_eq_true rfl) ⟨⟨_, rfl, rfl, rfl⟩, .inl ⟨_, _, _, awake_spec S2 hL2, fun S7 _ hS7 _ => ⟨rfl, true, rfl, rfl⟩⟩⟩))
      · have hp : Sc.printR l = ([], Sc.badOf l) := by
          unfold Sc.printR; rw [if_neg (by omega), if_pos hb]
        rw [hp]
        refine onE (bne_iff_ne.2 hb) (onE (beq_iff_eq.2 rfl) (onE ((bsq [] []).trans (decide_eq_true rfl)) ⟨⟨_, rfl, rfl, rfl⟩, .inl ⟨_, _, _, awake_spec S2 hL2, fun S7 _ hS7 _ => ⟨rfl, true, rfl, rfl⟩⟩⟩))
end Go.Proofs.YtikpdgjdeikinaaGreatDoor
