/- law09: the reference's Last (79). -/
import Derived.Test.YtapblcfbmaikjaaGreatDoorGv
namespace Go.Proofs.YtapblcfbmaikjaaGreatDoor
open Go Go.Vc Go.Sort Go.RowKit Go.Maps
set_option maxRecDepth 100000
set_option maxHeartbeats 8000000

theorem rlast_spec (S : Store) (x : Mm) (d q : Hd) (m : Li.Mem) (n : Nat) (hx : RmIs S x m) (hf : fewM n m) (hn8 : n ≤ 8) :
    Pure Tryz.prog 79 S [.agg #[slV x.1, slV x.2, slV d, slV q]] (A := Hd) rSl (fun S' q' => WsIs S' q' (Li.lasts m)) := by
  have hn := hf.ok.len
  have hll : (Li.lasts m).length = m.ms.length := by unfold Li.lasts; rw [List.length_map]
  have hx2 := hx.ms.len
  have hms := hx.ms
  have hwo : ∀ w ∈ Li.lasts m, okW w := fun w hw => by
    obtain ⟨h, hh, rfl⟩ := List.mem_map.1 hw
    obtain ⟨i, hi, e⟩ := List.getElem_of_mem hh
    obtain ⟨⟨hp, hn', hc⟩, h', b2, o2, hh', hhd, e2, ok2, r2⟩ := hms.at (i := i) hi
    have : h' = h := by rw [List.getElem?_eq_getElem hi, e] at hh'; exact (Option.some.inj hh').symm
    subst this
    have hhn : hn' = h'.length := hhd.len
    subst hhn
    have hne := hf.ok.ne h' hh
    have hpos : 0 < h'.length := Nat.pos_of_ne_zero fun q => hne (List.eq_nil_of_length_eq_zero q)
    obtain ⟨gp, gc, b3, o3, e3, ok3, r3, hgd, hgw⟩ := g_at hhd (show h'.length - 1 < h'.length by omega)
    exact hgw
  obtain ⟨⟨p, np, pc⟩, ⟨p2, np2, pc2⟩⟩ := x
  have hx2 : np2 = m.ms.length := hx2
  subst hx2
  obtain ⟨dp, dn, dc⟩ := d
  obtain ⟨qp, qn, qc⟩ := q
  refine pure_vc agrees Tryz.func79 rfl rfl (fun S S' q hle h => h.le hle) ?_
  refine ⟨[], [(3, shW, 35)], Nat, List.range' 5 28, fun i => [(4, rI i)], fun i => [.box [.v (.slice p np pc), .v (.slice p2 m.ms.length pc2), .v (.slice dp dn dc), .v (.slice qp qn qc)], .row shW 35 ((Li.lasts m).take i)], fun _ => S, fun i => i ≤ m.ms.length, fun i => m.ms.length - i, ?_⟩
  refine And.intro (Exists.intro 0 (And.intro (And.intro (And.intro ?_ rfl) (And.intro rfl (Store.le_refl _))) (Nat.zero_le _))) ?_
  · repeat' first | exact trivial | exact rfl | refine And.intro ?_ ?_
  intro i hi
  have hi : i ≤ m.ms.length := hi
  refine And.intro (fun h1 => ?_) (fun h1 => ?_)
  · have h1 : (i : Int) < ((m.ms.length : Nat) : Int) := of_decide_eq_true h1
    have hil : i < m.ms.length := by omega
    obtain ⟨⟨hp, hn', hc⟩, h, b2, o2, hh, hhd, e2, ok2, r2⟩ := hms.at (i := i) hil
    have hhn : hn' = h.length := hhd.len
    subst hhn
    have eh : Li.hist m i = h := by unfold Li.hist; rw [List.getD_eq_getElem?_getD, hh]; rfl
    have hhl : h.length ≤ 100000 := by rw [← eh]; exact hf.hist (by omega)
    have hpos : 0 < h.length := by rw [← eh]; exact Li.hist_pos hf.ok (by omega)
    have hlt : h.length - 1 < h.length := by omega
    obtain ⟨gp, gc, b3, o3, e3, ok3, r3, hgd, hgw⟩ := g_at hhd hlt
    have wH : IntKind.i64.wrap (((h.length : Nat) : Int) - 1) = ((h.length - 1 : Nat) : Int) := by rw [wrap_i64 (by omega) (by omega)]; omega
    have hlast : (Li.lasts m)[i]? = some (h.getD (h.length - 1) Li.dm).w := by unfold Li.lasts; rw [List.getElem?_map, hh]; rfl
    have htk : (Li.lasts m).take (i + 1) = (Li.lasts m).take i ++ [(h.getD (h.length - 1) Li.dm).w] := by rw [List.take_add_one, hlast]; rfl
    have i0 : (0 : Int) ≤ (i : Int) := Int.natCast_nonneg _
    refine ⟨or79_5, [1], oF79_5, by kernel_rfl, ?_⟩
    refine ⟨i0, h1, b2, o2, e2, ((hp, h.length, hc) : Hd), ok2, r2, i0, h1, b2, o2, e2, ((hp, h.length, hc) : Hd), ok2, r2, ((h.length - 1 : Nat) : Int), wH, Int.natCast_nonneg _, by show ((h.length - 1 : Nat) : Int) < ((h.length : Nat) : Int); omega, b3, o3, e3, (h.getD (h.length - 1) Li.dm).w, ⟨trivial, trivial, trivial⟩, rd_part r3 0 3, ?_⟩
    refine ⟨[(h.getD (h.length - 1) Li.dm).w], ⟨rfl, rfl⟩, fun _ _ => ⟨trivial, trivial, trivial⟩, by show (((Li.lasts m).take i).length + 1) * 16 ≤ 140737488355328; rw [List.length_take]; omega, ?_⟩
    refine ⟨((i + 1 : Nat) : Int), wrap_i64 (by omega) (by omega), i + 1, ⟨⟨?_, rfl⟩, ?_, Store.le_refl _⟩, by show i + 1 ≤ _; omega, by show m.ms.length - (i + 1) < m.ms.length - i; omega⟩
    · repeat' first | exact trivial | exact rfl | refine And.intro ?_ ?_
    · show _ = [Res.box _, Res.row shW 35 ((Li.lasts m).take (i + 1))]
      rw [htk]; rfl
  · have h1 : ¬ (i : Int) < ((m.ms.length : Nat) : Int) := of_decide_eq_false h1
    have hil : i = m.ms.length := by omega
    subst hil
    intro p5 c5 S5 hS5 hr5 hpf5
    have htl : (Li.lasts m).take m.ms.length = Li.lasts m := by rw [← hll, List.take_length]
    have hr5 : RowRd S5 p5 shW ((Li.lasts m).take m.ms.length) := hr5
    have hf5 : PForm p5 ((Li.lasts m).take m.ms.length).length c5 := hpf5.1
    rw [htl] at hr5 hf5
    refine ⟨rfl, (p5, ((Li.lasts m).take m.ms.length).length, c5), rfl, ?_⟩
    rw [htl]
    exact ws_of hf5 hr5 hwo
end Go.Proofs.YtapblcfbmaikjaaGreatDoor
