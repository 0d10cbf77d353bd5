/- law29: Call; awake. -/
import Derived.Test.YtjlkekebhgjlcaaDoorFg
namespace Go.Proofs.YtjlkekebhgjlcaaDoor
open Go Go.Vc
set_option maxRecDepth 100000

theorem call_guard (S : Store) (hT : Tab S) (bf ba : Nat) (k : Int) (f : Nat) (a : Addr) (c : Nat) (l : List Int) (hf : hostIs f l) (hx : l ≠ []) (hl : ∀ x ∈ l, inI64 x) (hn : l.length ≤ 1000000)
    (h1 : S.rd bf 0 [.int .i64 k, fv f]) (h2 : S.rd ba 0 [.slice (some a) l.length c]) (hr : RowRd S (some a) shI l) :
    Pure Tryd.prog 8 S [.func (.func 26) #[] #[.pointer (some ⟨bf, 0, none⟩), .pointer (some ⟨ba, 0, none⟩)]] (A := Int × ByteArray × Bool) gOut (fun _ x => x = hostR f l) := by
  refine guard_spec S 26 [_, _] (hostE f l) _ (enters_of Tryd.func26 (by kernel_rfl) rfl) (call1_spec S hT bf ba k f a c l hf hx hl hn h1 h2 hr) fun e he => ?_
  unfold hostIs at hf
  split at hf
  · exact .inl ⟨_, he, rfl⟩
  · rename_i x; exact .inr ⟨_, _, _, he, rfl, said_string S _, rfl⟩
  · exact .inl ⟨_, he, rfl⟩
  · rename_i x; exact .inr ⟨_, _, _, he, rfl, said_string S _, rfl⟩
  · exact .inl ⟨_, he, rfl⟩
  · rename_i x y
    by_cases hy : y = 0
    · simp only [hostE, if_pos hy] at he
      exact .inr ⟨_, _, _, he, rfl, said_divide S, by simp only [hostR, if_pos hy]; rfl⟩
    · simp only [hostE, if_neg hy] at he
      exact .inl ⟨_, he, by simp only [hostR, if_neg hy]⟩
  · exact .inl ⟨_, he, rfl⟩
  · exact .inl ⟨_, he, rfl⟩
  · exact hf.elim

theorem find_is {name : ByteArray} {k : Int} {f : Nat} (h : find name = some (k, f)) (l : List Int) (hl : (l.length : Int) = k) : hostIs f l ∧ l ≠ [] := by
  rcases name_cases name with hn | hn
  · rcases hn with rfl | rfl | rfl | rfl | rfl | rfl | rfl | rfl <;> (obtain ⟨rfl, rfl⟩ := Prod.mk.inj (Option.some.inj h))
    · match l, hl with | [x], _ => exact ⟨trivial, by simp⟩
    · match l, hl with | [x], _ => exact ⟨trivial, by simp⟩
    · match l, hl with | [x], _ => exact ⟨trivial, by simp⟩
    · match l, hl with | [x], _ => exact ⟨trivial, by simp⟩
    · match l, hl with | [x, y], _ => exact ⟨trivial, by simp⟩
    · match l, hl with | [x, y], _ => exact ⟨trivial, by simp⟩
    · match l, hl with | [x], _ => exact ⟨trivial, by simp⟩
    · match l, hl with | [x, y], _ => exact ⟨trivial, by simp⟩
  · rw [find_none hn] at h; cases h

theorem hostR_shape {f : Nat} {l : List Int} (h : hostIs f l) : ((hostR f l).2.2 = true ∧ (hostR f l).2.1 = ByteArray.empty) ∨ ((hostR f l).2.2 = false ∧ (hostR f l).1 = 0) := by
  unfold hostIs at h
  split at h
  · exact .inl ⟨rfl, rfl⟩
  · exact .inr ⟨rfl, rfl⟩
  · exact .inl ⟨rfl, rfl⟩
  · exact .inr ⟨rfl, rfl⟩
  · exact .inl ⟨rfl, rfl⟩
  · rename_i x y
    by_cases hy : y = 0
    · simp only [hostR, if_pos hy]; exact .inr ⟨trivial, trivial⟩
    · simp only [hostR, if_neg hy]; exact .inl ⟨trivial, trivial⟩
  · exact .inl ⟨rfl, rfl⟩
  · exact .inl ⟨rfl, rfl⟩
  · exact h.elim
theorem call_spec (S : Store) (hT : Tab S) (name : ByteArray) (p : Hd) (l : List Int) (hl : l.length = p.2.1) (hr : RowRd S p.1 shI l) (hi : ∀ x ∈ l, inI64 x) (hn : l.length ≤ 1000000) :
    Pure Tryd.prog 18 S [.string name, slV p] (A := Int × Int × ByteArray) (fun x => .tup [(false, [.v (.int .i64 x.1)]), (false, [.v (.int .i64 x.2.1)]), (false, [.v (.string x.2.2)])]) (fun _ x => x = callR name l) := by
  obtain ⟨p, n, c⟩ := p
  simp only at hl hr
  subst hl
  refine pure_vc agrees Tryd.func18 rfl rfl (fun S S' q hle h => h) ?_
  refine ⟨⟨_, rfl, rfl, rfl⟩, .inl ⟨_, _, _, functions_spec S, fun S1 b hS1 hb => ?_⟩⟩
  refine ⟨host, hb, name, ((0 : Int), .nilFunc), rfl, rfl, ?_⟩
  have hm := mget_host name
  generalize hM : mget (V := ti50.sh.T) ti9.sh host name = M
  have hM : M = (find name).map fun x => (x.1, fv x.2) := hM.symm.trans hm
  cases hf : find name with
  | none =>
    rw [hf] at hM
    obtain rfl : M = none := hM
    have hc : callR name l = (0, 10, ByteArray.empty) := by unfold callR; rw [hf]
    exact onE rfl ⟨rfl, _, rfl, hc.symm⟩
  | some x =>
    obtain ⟨k, f⟩ := x
    rw [hf] at hM
    obtain rfl : M = some (k, fv f) := hM
    refine offE rfl (And.intro (fun h => ?_) (fun h => ?_))
    · have h : ((l.length : Int) != k) = true := h
      have h : ¬ (l.length : Int) = k := by simpa using h
      exact ⟨rfl, _, rfl, (callR_len hf h).symm⟩
    have h : ((l.length : Int) != k) = false := h
    have hlk : (l.length : Int) = k := by simpa using h
    obtain ⟨hi1, hx⟩ := find_is hf l hlk
    refine ⟨⟨_, rfl, rfl, rfl⟩, .inl fun b1 S2 hS2 hb1 => fun b2 S3 hS3 hb2 => ?_⟩
    cases p with
    | none => rcases hr.1 with h | ⟨_, _, h, _⟩; exact absurd h hx; cases h
    | some a =>
    have h3 := Store.le_trans hS1 (Store.le_trans hS2 hS3)
    refine ⟨_, _, _, call_guard S3 (hT.le h3) b1 b2 k f a c l hi1 hx hi hn (Store.rd_le hS3 hb1) hb2 (hr.le h3), fun S4 x hS4 hx4 => ?_⟩
    obtain rfl : x = hostR f l := hx4
    rw [callR_eq hf hlk]
    rcases hostR_shape hi1 with ⟨e1, e2⟩ | ⟨e1, e2⟩
    · exact offE (by rw [e1]; rfl) ⟨rfl, _, rfl, by rw [e1, e2, if_pos rfl]⟩
    · exact onE (by rw [e1]; rfl) ⟨rfl, _, rfl, by rw [e1, e2, if_neg (by decide)]⟩

set_option maxHeartbeats 1000000 in
theorem awake_spec (S : Store) (hT : Tab S) : Pure Tryd.prog 11 S [] rB (fun _ x => x = true) := by
  refine pure_vc agrees Tryd.func11 rfl rfl (fun S S' q hle h => h) ?_
  refine ⟨⟨_, rfl, rfl, rfl⟩, .inl fun p1 c1 S1 hS1 hr1 f1 => ⟨_, _, _, call_spec S1 (hT.le hS1) n2 (p1, 1, c1) [4] rfl hr1 (by simp [inI64]) (by decide), fun S2 x hS2 hx => ?_⟩⟩
  obtain rfl : x = (8, 0, ByteArray.empty) := hx
  have h2 := Store.le_trans hS1 hS2
  refine ⟨⟨_, rfl, rfl, rfl⟩, .inl fun p1 c1 S3 hS3 hr1 f1 => ⟨_, _, _, call_spec S3 (hT.le (Store.le_trans h2 hS3)) n3 (p1, 1, c1) [-3] rfl hr1 (by simp [inI64]) (by decide), fun S2 x hS2 hx => ?_⟩⟩
  obtain rfl : x = (0, 20, ⟨#[102, 97, 105, 108]⟩ ++ ⟨#[32]⟩ ++ dec (-3)) := hx
  have hd : dec (-3) = ⟨#[45, 51]⟩ := by
    rw [dec_neg (by decide), show -(-3 : Int) = 3 from rfl, dec_one (by decide) (by decide)]; rfl
  refine onE rfl (onE rfl (onE rfl ⟨rfl, _, rfl, ?_⟩))
  rw [streq, hd]
  exact decide_eq_true rfl
end Go.Proofs.YtjlkekebhgjlcaaDoor
