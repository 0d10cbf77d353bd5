/- law58: the chapter's example: the walk. -/
import Derived.Test.YtpfghndflegbaaaDoorFt
namespace Go.Proofs.YtpfghndflegbaaaDoor
open Go Go.Vc Go.Sort
set_option maxRecDepth 100000
set_option maxHeartbeats 4000000

theorem call_spec (S : Store) (t n : Int) (nm : ByteArray) (h : Hd) : Pure Tryd.prog 23 S [.int .i64 t, .int .i64 n, .string nm, slV h] (A := Unit) (fun _ => shE.sv (evCall t n nm h)) (fun _ _ => True) := by
  refine pure_vc agrees Tryd.func23 rfl rfl (fun S S' q hle h => h) ?_
  exact ⟨rfl, (), rfl, trivial⟩
theorem answer_spec (S : Store) (t n v : Int) : Pure Tryd.prog 24 S [.int .i64 t, .int .i64 n, .int .i64 v] (A := Unit) (fun _ => shE.sv (evAns t n v)) (fun _ _ => True) := by
  refine pure_vc agrees Tryd.func24 rfl rfl (fun S S' q hle h => h) ?_
  exact ⟨rfl, (), rfl, trivial⟩
theorem pform_cap {p : Option Addr} {n c : Nat} (h : PForm p n c) : n ≤ c := by
  rcases h with ⟨_, h1, h2⟩ | ⟨g, _, h2⟩
  · omega
  · exact h2
theorem ex_args {S : Store} {p : Option Addr} {c : Nat} (hr : RowRd S p shI [5]) : ∀ h : Hd, h = (p, 1, c) ∨ h = (none, 0, 0) → (exD h).length = h.2.1 ∧ RowRd S h.1 shI (exD h) ∧ ∀ a ∈ exD h, inI64 a := by
  rintro h (rfl | rfl)
  · refine ⟨rfl, hr, fun a ha => ?_⟩
    have : a = 5 := List.mem_singleton.1 ha
    rw [this]; exact ⟨by decide, by decide⟩
  · exact ⟨rfl, ⟨.inl rfl, fun _ h => by cases h⟩, fun a ha => by cases ha⟩
theorem ex_lxA {S : Store} (hT : Lw S) {p : Option Addr} {c : Nat} (hr : RowRd S p shI [5]) {q : Option Addr} {d : Nat} (hq : RowRd S q shE (exA (p, 1, c))) (hf : PForm q 4 d) : Lx S exD (q, 4, d) (exA (p, 1, c)) := by
  refine ⟨rfl, pform_cap hf, hq, by show 4 * 80 ≤ 140737488355328; decide, fun e he => ?_, hT⟩
  have := ex_args hr (c := c)
  simp only [exA, List.mem_cons, List.not_mem_nil, or_false] at he
  rcases he with rfl | rfl | rfl | rfl
  · exact this _ (.inl rfl)
  · exact this _ (.inr rfl)
  · exact this _ (.inr rfl)
  · exact this _ (.inr rfl)
theorem ex_lxB {S : Store} (hT : Lw S) {p : Option Addr} {c : Nat} (hr : RowRd S p shI [5]) {q : Option Addr} {d : Nat} (hq : RowRd S q shE (exB (p, 1, c))) (hf : PForm q 4 d) : Lx S exD (q, 4, d) (exB (p, 1, c)) := by
  refine ⟨rfl, pform_cap hf, hq, by show 4 * 80 ≤ 140737488355328; decide, fun e he => ?_, hT⟩
  have := ex_args hr (c := c)
  simp only [exB, List.mem_cons, List.not_mem_nil, or_false] at he
  rcases he with rfl | rfl | rfl | rfl
  · exact this _ (.inr rfl)
  · exact this _ (.inr rfl)
  · exact this _ (.inl rfl)
  · exact this _ (.inr rfl)
theorem awake_spec (S : Store) (hT : Lw S) : Pure Tryd.prog 9 S [] (A := Unit) (fun _ => rB true) (fun _ _ => True) := by
  refine pure_vc agrees Tryd.func9 rfl rfl (fun S S' q hle h => h) ?_
  refine ⟨⟨_, rfl, rfl, rfl⟩, .inl fun p1 c1 S1 hS1 hr1 hpf1 => ⟨_, _, _, call_spec S1 1 1 wWrite (p1, 1, c1), fun S2 _ hS2 _ => ?_⟩⟩
  refine ⟨⟨_, rfl, rfl, rfl⟩, .inl ⟨_, _, _, call_spec S2 2 1 wRead (none, 0, 0), fun S3 _ hS3 _ => ?_⟩⟩
  refine ⟨⟨_, rfl, rfl, rfl⟩, .inl ⟨_, _, _, answer_spec S3 2 1 5, fun S4 _ hS4 _ => ?_⟩⟩
  refine ⟨⟨_, rfl, rfl, rfl⟩, .inl ⟨_, _, _, answer_spec S4 1 1 0, fun S5 _ hS5 _ => ?_⟩⟩
  refine ⟨⟨_, rfl, rfl, rfl⟩, .inl ⟨_, _, _, call_spec S5 2 1 wRead (none, 0, 0), fun S6 _ hS6 _ => ?_⟩⟩
  refine ⟨⟨_, rfl, rfl, rfl⟩, .inl ⟨_, _, _, answer_spec S6 2 1 5, fun S7 _ hS7 _ => ?_⟩⟩
  refine ⟨⟨_, rfl, rfl, rfl⟩, .inl fun p2 c2 S8 hS8 hr2 hpf2 => ⟨_, _, _, call_spec S8 1 1 wWrite (p2, 1, c2), fun S9 _ hS9 _ => ?_⟩⟩
  refine ⟨⟨_, rfl, rfl, rfl⟩, .inl ⟨_, _, _, answer_spec S9 1 1 0, fun S10 _ hS10 _ => ?_⟩⟩
  have g1 : S1.le S10 := Store.le_trans hS2 (Store.le_trans hS3 (Store.le_trans hS4 (Store.le_trans hS5 (Store.le_trans hS6 (Store.le_trans hS7 (Store.le_trans hS8 (Store.le_trans hS9 hS10)))))))
  have g8 : S8.le S10 := Store.le_trans hS9 hS10
  have hT10 : Lw S10 := (hT.le hS1).le g1
  have hrA : RowRd S10 p1 shI [5] := hr1.le g1
  have hrB : RowRd S10 p2 shI [5] := hr2.le g8
  refine ⟨⟨_, rfl, rfl, rfl⟩, .inl fun pa ca S11 hS11 hra hpfa => ⟨_, _, _, check_spec S11 exD (pa, 4, ca) (exA (p1, 1, c1)) (ex_lxA (hT10.le hS11) (hrA.le hS11) hra hpfa.1), fun S12 x hS12 hx => ?_⟩⟩
  obtain ⟨⟨xq, xb⟩, xe⟩ := x
  obtain ⟨⟨hx1, hx2⟩, -⟩ := hx
  rw [(ex_wrong _).1] at hx1 hx2
  rw [if_pos rfl, ex_leastA] at hx2
  obtain ⟨hx3, hx4, hx5, hx6, hx7⟩ := hx2
  have hx1 : xe = 0 := hx1
  have hx3 : xb = true := hx3
  subst hx1 hx3
  refine ⟨⟨_, rfl, rfl, rfl⟩, .inl fun pb cb S13 hS13 hrb hpfb => ⟨_, _, _, check_spec S13 exD (pb, 4, cb) (exB (p2, 1, c2)) (ex_lxB (((hT10.le hS11).le hS12).le hS13) (((hrB.le hS11).le hS12).le hS13) hrb hpfb.1), fun S14 x hS14 hx => ?_⟩⟩
  obtain ⟨⟨yq, yb⟩, ye⟩ := x
  obtain ⟨⟨hy1, hy2⟩, -⟩ := hx
  rw [(ex_wrong _).2] at hy1 hy2
  rw [if_pos rfl, ex_leastB] at hy2
  obtain ⟨hy3, hy4⟩ := hy2
  have hy1 : ye = 0 := hy1
  have hy3 : yb = false := hy3
  subst hy1 hy3
  refine ⟨⟨_, rfl, rfl, rfl⟩, .inl ⟨_, _, _, blame_spec S14 exD (pb, 4, cb) (exB (p2, 1, c2)) ((ex_lxB (((hT10.le hS11).le hS12).le hS13) (((hrB.le hS11).le hS12).le hS13) hrb hpfb.1).le hS14), fun S15 z hS15 hz => ?_⟩⟩
  have hz : z = _ := hz
  rw [(ex_wrong _).2, if_pos rfl, ex_blame] at hz
  subst hz
  have hx4 : [(0 : Int), 1].length = xq.2.1 := hx4.symm
  have hx6 : RowRd S12 xq.1 shI [(0 : Int), 1] := hx6
  refine onT (onT ⟨⟨_, rfl, rfl, rfl⟩, .inl fun pc cc S16 hS16 hrc hpfc => ⟨_, _, _, same_spec S16 xq (pc, 2, cc) [0, 1] [0, 1] hx4 rfl ((((hx6.le hS13).le hS14).le hS15).le hS16) hrc (by decide) (by decide), fun S17 b hS17 hb => ?_⟩⟩)
  have hb : b = true := hb
  subst hb
  refine onT (onT (onT (onT ?_)))
  exact ⟨rfl, (), rfl, trivial⟩
end Go.Proofs.YtpfghndflegbaaaDoor
