/- law57: Text of the program and of the reference. -/
import Derived.Test.YtpeehenohdlfdaaGreatDoorFl
namespace Go.Proofs.YtpeehenohdlfdaaGreatDoor
open Go Go.Vc Go.Sort
set_option maxRecDepth 100000
set_option maxHeartbeats 4000000

theorem strInts_app (a b : List UInt8) : strInts (bs (a ++ b)) = strInts (bs a) ++ strInts (bs b) := by simp [strInts, bs]
theorem text_step {l : List Rc.Ev} {i : Nat} {e : Rc.Ev} (h : l[i]? = some e) : Rc.textR (l.take (i + 1)) = Rc.textR (l.take i) ++ Rc.lineR e := by rw [take_ev h, Rc.text_snoc]
theorem text_low {S : Store} {q : Hd} {l : List Rc.Ev} (hl : LIs S q l) (hh : Rc.Hist l) (i : Nat) : (Rc.textR (l.take i)).length ≤ 163840 := by
  have h1 := Rc.text_len (hh.take i) fun e he => li_wide hl e (List.mem_of_mem_take he)
  have h2 := Rc.hist_len (hh.take i)
  omega
theorem refText_spec (S : Store) (q : Hd) (l : List Rc.Ev) (hl : LIs S q l) (hh : Rc.Hist l) : Pure Tryz.prog 17 S [slV q] (A := Unit) (fun _ => rS (bs (Rc.textR l))) (fun _ _ => True) := by
  have hq := li_len hl
  have hll := Rc.hist_len hh
  obtain ⟨p, n, c⟩ := q
  have hq : n = l.length := hq
  subst hq
  refine pure_vc agrees Tryz.func17 rfl rfl (fun S S' q hle h => h) ?_
  refine ⟨[], [], Nat, [3, 4] ++ List.range' 5 13, fun i => [(3, rS (bs (Rc.textR (l.take i)))), (4, rI i)], fun _ => [], fun _ => S, fun i => i ≤ l.length, fun i => l.length - i, ?_⟩
  refine And.intro (Exists.intro 0 (And.intro (And.intro (And.intro ?_ rfl) (And.intro rfl (Store.le_refl _))) (Nat.zero_le _))) ?_
  · repeat' first | exact trivial | exact rfl | refine And.intro ?_ ?_
  rintro i hi
  have hi : i ≤ l.length := hi
  have i0 : (0 : Int) ≤ ((i : Nat) : Int) := Int.natCast_nonneg _
  refine And.intro (fun h => ?_) (fun h => ?_)
  · have hil : i < l.length := by
      have : ((i : Nat) : Int) < ((l.length : Nat) : Int) := of_decide_eq_true h
      omega
    obtain ⟨x, e, b, o, he, hx, hp, hrd⟩ := ev_at hl hil
    have hst := text_step he
    have hv := hh i e he
    have hln := Rc.line_len hv hx.wide
    have hlo := text_low hl hh i
    refine ⟨i0, by show ((i : Nat) : Int) < ((l.length : Nat) : Int); omega, b, o, hp, x, okE [x] x (by simp), hrd, ⟨_, rfl, rfl, rfl⟩, .inl ⟨_, _, _, refLine_spec S x e hx _ hv, fun S1 _ hS1 _ => ?_⟩⟩
    refine ⟨by rw [bs_size, bs_size]; omega, ((i + 1 : Nat) : Int), wrap_i64 (by omega) (by omega), i + 1, ⟨⟨?_, rfl⟩, rfl, hS1⟩, hil, by show l.length - (i + 1) < l.length - i; omega⟩
    rw [hst, ← bs_app (Rc.textR (l.take i))]
    repeat' first | exact trivial | exact rfl | refine And.intro ?_ ?_
  · have hil : i = l.length := by
      have : ¬ ((i : Nat) : Int) < ((l.length : Nat) : Int) := of_decide_eq_false h
      omega
    subst hil
    refine ⟨rfl, (), ?_, trivial⟩
    rw [List.take_length]; rfl
theorem text_spec (S : Store) (hL : Lt S) (x : Hx) (l : List Rc.Ev) (hx : HIs S x l) : Pure Tryz.prog 16 S [vH x] (A := Unit) (fun _ => rS (bs (Rc.textR l))) (fun _ _ => True) := by
  have hl := hx.ls
  have hh := hx.hs
  have hq := li_len hl
  have hll := Rc.hist_len hh
  obtain ⟨⟨p, n, c⟩, ob, lb⟩ := x
  have hl : LIs S (p, n, c) l := hl
  have hq : n = l.length := hq
  subst hq
  refine pure_vc agrees Tryz.func16 rfl rfl (fun S S' q hle h => h) ?_
  intro b
  refine ⟨[], [(100000, .int .u8, 5)], Nat × Option Addr × Hd × Store, [4, 5] ++ List.range' 10 8, fun a => [(9, rI a.1)], fun a => [.box [.v (slV (p, l.length, c)), .v (.map ob), .v (.map lb)], bBox b a.2.1 a.2.2.1, .pool (.int .u8) 5 (bPool a.2.2.1 (strInts (bs (Rc.textR (l.take a.1)))))], fun a => a.2.2.2,
    fun a => a.1 ≤ l.length ∧ S.le a.2.2.2 ∧ selfQ b a.2.1 ∧ okB a.2.2.1 (strInts (bs (Rc.textR (l.take a.1)))), fun a => l.length - a.1, ?_⟩
  refine And.intro (Exists.intro (0, none, (none, 0, 0), S) (And.intro (And.intro (And.intro ?_ rfl) (And.intro rfl (Store.le_refl _))) ⟨Nat.zero_le _, Store.le_refl _, .inl rfl, ⟨rfl, fun _ => ⟨rfl, rfl⟩, fun h => absurd rfl h⟩⟩)) ?_
  · repeat' first | exact trivial | exact rfl | refine And.intro ?_ ?_
  rintro ⟨i, qq, v, Sa⟩ ⟨hi, hSa, hq, hv⟩
  have hi : i ≤ l.length := hi
  have hSa : S.le Sa := hSa
  have hq : selfQ b qq := hq
  have hv : okB v (strInts (bs (Rc.textR (l.take i)))) := hv
  have i0 : (0 : Int) ≤ ((i : Nat) : Int) := Int.natCast_nonneg _
  have hLa := hL.le hSa
  have hlo := text_low hl hh i
  refine And.intro (fun h => ?_) (fun h => ?_)
  · have hil : i < l.length := by
      have : ((i : Nat) : Int) < ((l.length : Nat) : Int) := of_decide_eq_true h
      omega
    obtain ⟨x, e, bb, o, he, hx, hp, hrd⟩ := ev_at (hl.le hSa) hil
    have hst := text_step he
    have hval := hh i e he
    have hln := Rc.line_len hval hx.wide
    have hne : Rc.lineR e ≠ [] := by unfold Rc.lineR; simp
    refine ⟨i0, by show ((i : Nat) : Int) < ((l.length : Nat) : Int); omega, bb, o, hp, .inr ⟨x, okE [x] x (by simp), fun S' hle _ => Store.rd_le hle hrd, ⟨_, rfl, rfl, rfl⟩, .inl ⟨_, _, _, told_spec Sa hLa x e hx _ hval, fun S4 _ hS4 _ => ?_⟩⟩⟩
    refine ⟨⟨_, rfl, rfl, rfl⟩, .inr (.inl ⟨[1, 2], _, _, _, _, rfl, write_spec S4 b qq v _ hq hv (Rc.lineR e) hne (by rw [strInts_len]; omega), fun S5 v' hS5 hv' => ?_⟩)⟩
    have hstr : strInts (bs (Rc.textR (l.take (i + 1)))) = strInts (bs (Rc.textR (l.take i))) ++ strInts (bs (Rc.lineR e)) := by rw [hst, strInts_app]
    refine ⟨((i + 1 : Nat) : Int), wrap_i64 (by omega) (by omega), (i + 1, some ⟨b, 0, none⟩, v', S5), ⟨⟨?_, rfl⟩, ?_, Store.le_refl _⟩, ⟨hil, Store.le_trans hSa (Store.le_trans hS4 hS5), .inr rfl, by rw [hstr]; exact hv'⟩, by show l.length - (i + 1) < l.length - i; omega⟩
    · repeat' first | exact trivial | exact rfl | refine And.intro ?_ ?_
    · show [_, bBox b (some ⟨b, 0, none⟩) v', Res.pool (.int .u8) 5 (bPool v' (strInts (bs (Rc.textR (l.take i))) ++ strInts (bs (Rc.lineR e))))] = [_, bBox b (some ⟨b, 0, none⟩) v', Res.pool (.int .u8) 5 (bPool v' (strInts (bs (Rc.textR (l.take (i + 1))))))]
      rw [hstr]
  · have hil : i = l.length := by
      have : ¬ ((i : Nat) : Int) < ((l.length : Nat) : Int) := of_decide_eq_false h
      omega
    have htt : l.take i = l := List.take_of_length_le (by omega)
    have hv2 := hv
    rw [htt] at hv2
    have hstr := str_spec Sa b qq v (Rc.textR l) hv2
    rw [← htt] at hstr
    refine ⟨⟨_, rfl, rfl, rfl⟩, .inr (.inl ⟨[1, 2], _, _, _, _, rfl, hstr, fun S2 _ hS2 _ => ?_⟩)⟩
    refine ⟨rfl, (), ?_, trivial⟩
    rw [htt]; rfl
end Go.Proofs.YtpeehenohdlfdaaGreatDoor
