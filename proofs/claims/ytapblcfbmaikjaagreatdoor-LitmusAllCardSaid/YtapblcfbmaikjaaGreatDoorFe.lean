/- law09: the memory: finds, adds, Load, Look, Store, Swap. the memory: look, Load, Look, Store, Swap. the memory: Load, Look, Store, Swap. -/
import Derived.Test.YtapblcfbmaikjaaGreatDoorFa
namespace Go.Proofs.YtapblcfbmaikjaaGreatDoor
open Go Go.Vc
set_option maxRecDepth 100000
set_option maxHeartbeats 8000000

@[reducible] def rMW (x : Mm × Li.Wd) : SV := .tup [(true, cMem x.1), (true, cW x.2)]
def MWPost (r : Li.Mem × Li.Wd) (S' : Store) (x : Mm × Li.Wd) : Prop := MemIs S' x.1 r.1 ∧ x.2 = r.2 ∧ okW x.2
theorem MWPost.le {S S' : Store} (h : S.le S') {r x} (hx : MWPost r S x) : MWPost r S' x := ⟨hx.1.le h, hx.2⟩
theorem finds_spec (S : Store) (x : Mm) (n : Nat) (m : Li.Mem) (hx : MemIs S x m) (hf : fewM n m) (k a i : Nat) (hk : k < m.vs.length) (ha : a < n) (hi : i < (Li.hist m a).length) (j : Bool) :
    Pure Tryz.prog 165 S [vMem x, .int .i64 ((k : Int) + 1), .int .i64 (a : Int), .int .i64 (i : Int), .bool j] (A := Mm × Li.Wd) rMW (fun S' y => MWPost (Li.finds m k a i j) S' y) := by
  have ham : a < m.ms.length := by rw [hf.ok.len]; exact ha
  have h2 := hx.ps.len
  obtain ⟨y, hh, b, o, hm, hy, hp, hok, hrd⟩ := hx.ps.at ham
  have e : Li.hist m a = hh := by unfold Li.hist; rw [List.getD_eq_getElem?_getD, hm]; rfl
  rw [← e] at hy
  have hvl := Li.view_len hf.ok hk
  have hn4 := hf.n4
  have hml : ((Li.hist m a).getD i Li.dm).v.length = n := (hf.ok.msg _ (Li.getD_mem ham) _ (Li.getD_mem hi)).1.trans hf.ok.len
  have hx0 := hx
  obtain ⟨⟨p, n1, c⟩, ⟨p2, n2, c2⟩⟩ := x
  have h2 : n1 = m.ms.length := h2
  subst h2
  refine pure_vc agrees Tryz.func165 rfl rfl (fun S S' q hle h => h.le hle) ?_
  refine ⟨Int.natCast_nonneg _, by show (a : Int) < ((m.ms.length : Nat) : Int); omega, b, o, hp, y, hok, hrd, ?_⟩
  refine ⟨⟨_, rfl, rfl, rfl⟩, .inl ⟨_, _, _, hat_spec S y (Li.hist m a) hy i hi, fun S1 z hS1 hz => ?_⟩⟩
  obtain ⟨⟨⟨w1, w2, w3⟩, zt, zm⟩, zb⟩ := z
  refine ⟨⟨_, rfl, rfl, rfl⟩, .inl ⟨_, _, _, seen_spec S1 _ n m (hx0.le hS1) hf k hk, fun S2 u hS2 hu => ?_⟩⟩
  refine ⟨⟨_, rfl, rfl, rfl⟩, .inl ⟨_, _, _, vwith_spec S2 u (Li.seen m k) a i hu (by omega) (by omega), fun S3 u' hS3 hu' => ?_⟩⟩
  have hz3 := (hz.le hS2).le hS3
  have hwl : (Li.withV (Li.seen m k) a i).length = n := (Li.with_len ..).trans hvl
  have hx3 := ((hx0.le hS1).le hS2).le hS3
  have fin : ∀ (S5 : Store) (y : Mm) (v : List Nat), S3.le S5 → v = (if j then Li.joinV (Li.withV (Li.seen m k) a i) ((Li.hist m a).getD i Li.dm).v else Li.withV (Li.seen m k) a i) → MemIs S5 y ⟨m.ms, m.vs.set k v⟩ → MWPost (Li.finds m k a i j) S5 (y, (w1, w2, w3)) := fun S5 y v hS5 hv hy => by
    subst hv
    refine ⟨hy, hz.w, ?_⟩
    have h1 := hz.ok
    have h2 : (w1, w2, w3) = _ := hz.w
    show okW (w1, w2, w3)
    rw [h2]; exact h1
  cases j with
  | true =>
    refine onT ⟨⟨_, rfl, rfl, rfl⟩, .inl ⟨_, _, _, vjoin_spec S3 u' zm _ _ hu' hz3.v (hwl.trans hml.symm), fun S4 u2 hS4 hu2 => ?_⟩⟩
    have hw := fun (S' : Store) (hS' : S4.le S') => mwith_spec S' ((p, m.ms.length, c), p2, n2, c2) m ((hx3.le hS4).le hS') hf.vs k hk u2 _ (hu2.le hS')
    refine ⟨or165_5, [1, 2], oF165_5, by kernel_rfl, ?_⟩
    refine And.intro ⟨⟨_, rfl, rfl, rfl⟩, .inl ⟨_, _, _, hw S4 (Store.le_refl _), fun S5 y5 hS5 hy5 => And.intro ?_ (And.intro ?_ trivial)⟩⟩ (And.intro ⟨⟨_, rfl, rfl, rfl⟩, .inl ⟨_, _, _, hw S4 (Store.le_refl _), fun S5 y5 hS5 hy5 => ?_⟩⟩ trivial)
    all_goals exact ⟨rfl, (y5, (w1, w2, w3)), rfl, fin S5 y5 _ (Store.le_trans hS4 hS5) rfl hy5⟩
  | false =>
    refine onF ?_
    have hw := fun (S' : Store) (hS' : S3.le S') => mwith_spec S' ((p, m.ms.length, c), p2, n2, c2) m (hx3.le hS') hf.vs k hk u' _ (hu'.le hS')
    refine ⟨or165_5, [1, 2], oF165_5, by kernel_rfl, ?_⟩
    refine And.intro ⟨⟨_, rfl, rfl, rfl⟩, .inl ⟨_, _, _, hw S3 (Store.le_refl _), fun S5 y5 hS5 hy5 => And.intro ?_ (And.intro ?_ trivial)⟩⟩ (And.intro ⟨⟨_, rfl, rfl, rfl⟩, .inl ⟨_, _, _, hw S3 (Store.le_refl _), fun S5 y5 hS5 hy5 => ?_⟩⟩ trivial)
    all_goals exact ⟨rfl, (y5, (w1, w2, w3)), rfl, fin S5 y5 _ hS5 rfl hy5⟩
theorem adds_spec (S : Store) (x : Mm) (n : Nat) (m : Li.Mem) (hx : MemIs S x m) (hf : fewM n m) (k a : Nat) (hk : k < m.vs.length) (ha : a < n) (w : Li.Wd) (hw : okW w) (j : Bool) :
    Pure Tryz.prog 138 S [vMem x, .int .i64 ((k : Int) + 1), .int .i64 (a : Int), vW w, .bool j] (A := Mm) rMem (fun S' y => MemIs S' y (Li.addsM m k a w j)) := by
  have ham : a < m.ms.length := by rw [hf.ok.len]; exact ha
  have h2 := hx.ps.len
  obtain ⟨y, hh, b, o, hm, hy, hp, hok, hrd⟩ := hx.ps.at ham
  have e : Li.hist m a = hh := by unfold Li.hist; rw [List.getD_eq_getElem?_getD, hm]; rfl
  rw [← e] at hy
  have hvl := Li.view_len hf.ok hk
  have hn4 := hf.n4
  have hhl := hf.hist ha
  have hx0 := hx
  obtain ⟨L, hL1, hL2, hL3, hL4, hL5⟩ := hx.ps.data
  obtain ⟨⟨p, n1, c⟩, ⟨p2, n2, c2⟩⟩ := x
  have h2 : n1 = m.ms.length := h2
  subst h2
  obtain ⟨w1, w2, w3⟩ := w
  refine pure_vc agrees Tryz.func138 rfl rfl (fun S S' q hle h => h.le hle) ?_
  refine ⟨Int.natCast_nonneg _, by show (a : Int) < ((m.ms.length : Nat) : Int); omega, b, o, hp, y, hok, hrd, ?_⟩
  refine ⟨or138_2, [4], oF138_2, by kernel_rfl, ?_⟩
  refine And.intro ⟨⟨_, rfl, rfl, rfl⟩, .inl ⟨_, _, _, seen_spec S ((p, m.ms.length, c), p2, n2, c2) n m hx0 hf k hk, fun S1 u hS1 hu => And.intro ⟨⟨_, rfl, rfl, rfl⟩, .inl ⟨_, _, _, hlen_spec S1 y (Li.hist m a) (hy.le hS1), fun S2 _ hS2 _ => And.intro ⟨⟨_, rfl, rfl, rfl⟩, .inl ⟨_, _, _, vwith_spec S2 u (Li.seen m k) a (Li.hist m a).length (hu.le hS2) (by omega) (by omega), fun S3 u' hS3 hu' => ?_⟩⟩ (And.intro ⟨⟨_, rfl, rfl, rfl⟩, .inl ⟨_, _, _, vwith_spec S2 u (Li.seen m k) a (Li.hist m a).length (hu.le hS2) (by omega) (by omega), fun S3 u' hS3 hu' => ?_⟩⟩ trivial)⟩⟩ (And.intro ⟨⟨_, rfl, rfl, rfl⟩, .inl ⟨_, _, _, hlen_spec S1 y (Li.hist m a) (hy.le hS1), fun S2 _ hS2 _ => ⟨⟨_, rfl, rfl, rfl⟩, .inl ⟨_, _, _, vwith_spec S2 u (Li.seen m k) a (Li.hist m a).length (hu.le hS2) (by omega) (by omega), fun S3 u' hS3 hu' => ?_⟩⟩⟩⟩ trivial)⟩⟩ (And.intro ⟨⟨_, rfl, rfl, rfl⟩, .inl ⟨_, _, _, seen_spec S ((p, m.ms.length, c), p2, n2, c2) n m hx0 hf k hk, fun S1 u hS1 hu => ⟨⟨_, rfl, rfl, rfl⟩, .inl ⟨_, _, _, hlen_spec S1 y (Li.hist m a) (hy.le hS1), fun S2 _ hS2 _ => ⟨⟨_, rfl, rfl, rfl⟩, .inl ⟨_, _, _, vwith_spec S2 u (Li.seen m k) a (Li.hist m a).length (hu.le hS2) (by omega) (by omega), fun S3 u' hS3 hu' => ?_⟩⟩⟩⟩⟩⟩ trivial)
  all_goals
    have hS03 : S.le S3 := Store.le_trans hS1 (Store.le_trans hS2 hS3)
    have hx3 := hx0.le hS03
    have hy3 := hy.le hS03
    have wa : IntKind.i64.wrap ((a : Int) + 1) = ((a + 1 : Nat) : Int) := wrap_i64 (by omega) (by omega)
    have g4 : Int.toNat ((a + 1 : Nat) : Int) ≤ m.ms.length := by rw [Int.toNat_natCast]; omega
    have hcap := hx0.ps.cap
    have g1 : Int.toNat (a : Int) ≤ Int.toNat (a : Int) := Nat.le_refl _
    have g2 : Int.toNat (a : Int) ≤ c := by rw [Int.toNat_natCast]; exact Nat.le_trans (Nat.le_of_lt ham) hcap
    have g3 : m.ms.length ≤ c := hcap
    obtain ⟨xs, hxs⟩ : ∃ xs : List Hd, xs = L.map (·.1) := ⟨_, rfl⟩
    have hxl : xs.length = m.ms.length := by rw [hxs, List.length_map, hL2]
    have hxr : RowRd S p shH xs := by rw [hxs]; exact hL4
    have htk : RowRd S (some ⟨b, o, none⟩) shH (xs.take a) := by
      have hp' : p = some ⟨b, o, none⟩ := hp
      have := RowRd.take hxr a
      rw [hp'] at this; exact this
    have hm4 : m.ms.length ≤ 4096 := by rw [hf.ok.len]; exact hn4
    have hdl : m.ms.length - Int.toNat ((a + 1 : Nat) : Int) = (xs.drop (a + 1)).length := by rw [List.length_drop, hxl, Int.toNat_natCast]
    have hdr : RowRd S (if c = Int.toNat ((a + 1 : Nat) : Int) then p else p.map fun p => addrAdd p (Int.toNat ((a + 1 : Nat) : Int) * 1)) shH (xs.drop (a + 1)) := by
      have := RowRd.drop hxr (c := c) (k := Int.toNat ((a + 1 : Nat) : Int)) (sz := 1) (by rw [hxl]; exact hcap) rfl
      rw [Int.toNat_natCast] at this ⊢; exact this
    have htl : (xs.take a).length = a := by rw [List.length_take]; omega
    have fin : ∀ (S5 S6 : Store) (q4 : Hd) (mg : Li.Msg) (p5 : Option Addr) (c5 : Nat), S3.le S5 → HsIs S5 q4 (Li.hist m a ++ [mg]) → PForm p5 (xs.take a ++ [q4] ++ xs.drop (a + 1)).length c5 → S5.le S6 → RowRd S6 p5 shH (xs.take a ++ [q4] ++ xs.drop (a + 1)) → MemIs S6 ((p5, (xs.take a ++ [q4] ++ xs.drop (a + 1)).length, c5), p2, n2, c2) ⟨m.ms.set a (Li.hist m a ++ [mg]), m.vs⟩ := fun S5 S6 q4 mg p5 c5 h5 hq4 hpf h6 hr => by
      refine ⟨⟨L.take a ++ [(q4, Li.hist m a ++ [mg])] ++ L.drop (a + 1), ?_, ?_, pform_le hpf, ?_, fun z hz => ?_⟩, (hx3.le (Store.le_trans h5 h6)).vs⟩
      · rw [List.map_append, List.map_append, List.map_take, List.map_drop, hL1, List.set_eq_take_append_cons_drop, if_pos ham]
        simp
      · simp only [List.length_append, List.length_take, List.length_drop, List.length_singleton, hxl, hL2]
      · rw [List.map_append, List.map_append, List.map_take, List.map_drop]
        show RowRd S6 p5 shH (List.take a (L.map (·.1)) ++ [q4] ++ List.drop (a + 1) (L.map (·.1)))
        rw [← hxs]; exact hr
      · rcases List.mem_append.1 hz with hz | hz
        · rcases List.mem_append.1 hz with hz | hz
          · exact (hL5 z (List.mem_of_mem_take hz)).le (Store.le_trans hS03 (Store.le_trans h5 h6))
          · simp only [List.mem_singleton] at hz; subst hz; exact hq4.le h6
        · exact (hL5 z (List.mem_of_mem_drop hz)).le (Store.le_trans hS03 (Store.le_trans h5 h6))
    cases j with
    | true =>
      refine offE rfl ⟨_, wa, by omega, g4, hcap, or138_7, [], oF138_7, by kernel_rfl, ?_⟩
      have hadd := fun (S0 S' : Store) (hS' : S3.le S') => hadd_spec S' y (Li.hist m a) (hy3.le hS') (by omega) ((w1, w2, w3), (k : Int) + 1, u') ⟨(w1, w2, w3), Li.withV (Li.seen m k) a (Li.hist m a).length⟩ ⟨rfl, hw, hu'.le hS'⟩
      refine And.intro (And.intro ⟨Int.natCast_nonneg _, Int.natCast_nonneg _, Nat.zero_le _, g1, g2, ⟨⟨_, rfl, rfl, rfl⟩, .inl ⟨_, _, _, hadd S3 S3 (Store.le_refl _), fun S4 q4 hS4 hq4 => ?_⟩⟩⟩ (And.intro ⟨⟨_, rfl, rfl, rfl⟩, .inl ⟨_, _, _, hadd S3 S3 (Store.le_refl _), fun S4 q4 hS4 hq4 => And.intro ⟨Int.natCast_nonneg _, Int.natCast_nonneg _, Nat.zero_le _, g1, g2, ?_⟩ (And.intro ⟨Int.natCast_nonneg _, Int.natCast_nonneg _, Nat.zero_le _, g1, g2, ?_⟩ trivial)⟩⟩ trivial)) (And.intro ⟨⟨_, rfl, rfl, rfl⟩, .inl ⟨_, _, _, hadd S3 S3 (Store.le_refl _), fun S4 q4 hS4 hq4 => And.intro (And.intro ⟨Int.natCast_nonneg _, Int.natCast_nonneg _, Nat.zero_le _, g1, g2, ?_⟩ (And.intro ⟨Int.natCast_nonneg _, Int.natCast_nonneg _, Nat.zero_le _, g1, g2, ?_⟩ trivial)) (And.intro ⟨Int.natCast_nonneg _, Int.natCast_nonneg _, Nat.zero_le _, g1, g2, ?_⟩ trivial)⟩⟩ trivial)
      all_goals
        have hS04 := Store.le_trans hS03 hS4
        refine .inr (.inr (.inl ⟨⟨b, o, none⟩, Int.toNat (a : Int) - 0, Int.toNat (a : Int) - 0, xs.take a, [q4], ?_, htl, Nat.le_refl _, Nat.lt_succ_self _, ?_, ⟨rfl, rfl⟩, fun _ _ => trivial, ?_, ?_⟩))
        · have hp' : p = some ⟨b, o, none⟩ := hp
          show Value.slice (if Int.toNat (a : Int) = 0 then p else Option.map (fun p => addrAdd p (0 * 1)) p) _ _ = _
          rw [hp']; split <;> rfl
        · exact htk.le hS04
        · show (Int.toNat (a : Int) - 0 + 1) * 24 ≤ 140737488355328
          rw [Int.toNat_natCast]; omega
        · refine ⟨xs.drop (a + 1), src_of hdl (hdr.le hS04), fun _ _ => trivial, ?_, ?_⟩
          · show ((xs.take a ++ [q4]).length + (xs.drop (a + 1)).length) * 24 ≤ 140737488355328
            rw [List.length_append, htl, List.length_drop, List.length_singleton, hxl]; omega
          refine ⟨⟨_, rfl, rfl, rfl⟩, .inl fun p5 c5 S5 hS5 hr5 hpf5 => ⟨_, _, _, mwith_spec S5 ((p5, (xs.take a ++ [q4] ++ xs.drop (a + 1)).length, c5), p2, n2, c2) ⟨m.ms.set a (Li.hist m a ++ [Li.Msg.mk (w1, w2, w3) (Li.withV (Li.seen m k) a (Li.hist m a).length)]), m.vs⟩ (fin S4 S5 q4 (Li.Msg.mk (w1, w2, w3) (Li.withV (Li.seen m k) a (Li.hist m a).length)) p5 c5 hS4 hq4 hpf5.1 hS5 hr5) hf.vs k hk u' _ (hu'.le (Store.le_trans hS4 hS5)), fun S6 y6 hS6 hy6 => ⟨rfl, y6, rfl, hy6⟩⟩⟩
    | false =>
      refine onE rfl ⟨⟨_, rfl, rfl, rfl⟩, .inl ⟨_, _, _, hlen_spec S3 y (Li.hist m a) hy3, fun S7 _ hS7 _ => ?_⟩⟩
      refine ⟨⟨_, rfl, rfl, rfl⟩, .inl ⟨_, _, _, vwith_spec S7 none (List.replicate m.ms.length 0) a (Li.hist m a).length (vw_nil S7 _) (by rw [List.length_replicate]; exact ham) (by rw [List.length_replicate]; exact hm4), fun S8 u0 hS8 hu0 => ?_⟩⟩
      have h38 := Store.le_trans hS7 hS8
      refine ⟨_, wa, by omega, g4, hcap, or138_7, [], oF138_7, by kernel_rfl, ?_⟩
      have hadd := fun (S0 S' : Store) (hS' : S8.le S') => hadd_spec S' y (Li.hist m a) (hy3.le (Store.le_trans h38 hS')) (by omega) ((w1, w2, w3), (k : Int) + 1, u0) ⟨(w1, w2, w3), Li.withV (List.replicate m.ms.length 0) a (Li.hist m a).length⟩ ⟨rfl, hw, hu0.le hS'⟩
      refine And.intro (And.intro ⟨Int.natCast_nonneg _, Int.natCast_nonneg _, Nat.zero_le _, g1, g2, ⟨⟨_, rfl, rfl, rfl⟩, .inl ⟨_, _, _, hadd S8 S8 (Store.le_refl _), fun S4 q4 hS4 hq4 => ?_⟩⟩⟩ (And.intro ⟨⟨_, rfl, rfl, rfl⟩, .inl ⟨_, _, _, hadd S8 S8 (Store.le_refl _), fun S4 q4 hS4 hq4 => And.intro ⟨Int.natCast_nonneg _, Int.natCast_nonneg _, Nat.zero_le _, g1, g2, ?_⟩ (And.intro ⟨Int.natCast_nonneg _, Int.natCast_nonneg _, Nat.zero_le _, g1, g2, ?_⟩ trivial)⟩⟩ trivial)) (And.intro ⟨⟨_, rfl, rfl, rfl⟩, .inl ⟨_, _, _, hadd S8 S8 (Store.le_refl _), fun S4 q4 hS4 hq4 => And.intro (And.intro ⟨Int.natCast_nonneg _, Int.natCast_nonneg _, Nat.zero_le _, g1, g2, ?_⟩ (And.intro ⟨Int.natCast_nonneg _, Int.natCast_nonneg _, Nat.zero_le _, g1, g2, ?_⟩ trivial)) (And.intro ⟨Int.natCast_nonneg _, Int.natCast_nonneg _, Nat.zero_le _, g1, g2, ?_⟩ trivial)⟩⟩ trivial)
      all_goals
        have hS04 := Store.le_trans hS03 (Store.le_trans h38 hS4)
        refine .inr (.inr (.inl ⟨⟨b, o, none⟩, Int.toNat (a : Int) - 0, Int.toNat (a : Int) - 0, xs.take a, [q4], ?_, htl, Nat.le_refl _, Nat.lt_succ_self _, ?_, ⟨rfl, rfl⟩, fun _ _ => trivial, ?_, ?_⟩))
        · have hp' : p = some ⟨b, o, none⟩ := hp
          show Value.slice (if Int.toNat (a : Int) = 0 then p else Option.map (fun p => addrAdd p (0 * 1)) p) _ _ = _
          rw [hp']; split <;> rfl
        · exact htk.le hS04
        · show (Int.toNat (a : Int) - 0 + 1) * 24 ≤ 140737488355328
          rw [Int.toNat_natCast]; omega
        · refine ⟨xs.drop (a + 1), src_of hdl (hdr.le hS04), fun _ _ => trivial, ?_, ?_⟩
          · show ((xs.take a ++ [q4]).length + (xs.drop (a + 1)).length) * 24 ≤ 140737488355328
            rw [List.length_append, htl, List.length_drop, List.length_singleton, hxl]; omega
          refine ⟨⟨_, rfl, rfl, rfl⟩, .inl fun p5 c5 S5 hS5 hr5 hpf5 => ⟨_, _, _, mwith_spec S5 ((p5, (xs.take a ++ [q4] ++ xs.drop (a + 1)).length, c5), p2, n2, c2) ⟨m.ms.set a (Li.hist m a ++ [Li.Msg.mk (w1, w2, w3) (Li.withV (List.replicate m.ms.length 0) a (Li.hist m a).length)]), m.vs⟩ (fin S4 S5 q4 (Li.Msg.mk (w1, w2, w3) (Li.withV (List.replicate m.ms.length 0) a (Li.hist m a).length)) p5 c5 (Store.le_trans h38 hS4) hq4 hpf5.1 hS5 hr5) hf.vs k hk u' _ (hu'.le (Store.le_trans (Store.le_trans h38 hS4) hS5)), fun S6 y6 hS6 hy6 => ⟨rfl, y6, rfl, hy6⟩⟩⟩
end Go.Proofs.YtapblcfbmaikjaaGreatDoor
namespace Go.Proofs.YtapblcfbmaikjaaGreatDoor
open Go Go.Vc
set_option maxRecDepth 100000
set_option maxHeartbeats 8000000

theorem some_spec (S : Store) (q : Hd) (h : List Li.Msg) (hq : HsIs S q h) (hn : h.length ≤ 1000000) (o : Nat) (ho : o < h.length) (c : Int) (hc : inI64 c) : Pure Tryz.prog 144 S [.int .i64 c, vH q, .int .i64 (o : Int)] (A := Unit) (fun _ => rI (Li.pickI h.length o c : Nat)) (fun _ _ => True) := by
  refine pure_vc agrees Tryz.func144 rfl rfl (fun S S' q hle h => h) ?_
  exact ⟨⟨_, rfl, rfl, rfl⟩, .inl ⟨_, _, _, hchoose_spec S q h hq hn o ho c hc, fun S1 _ hS1 _ => ⟨rfl, (), rfl, trivial⟩⟩⟩
theorem last_spec (S : Store) (q : Hd) (h : List Li.Msg) (hq : HsIs S q h) (hn : h.length ≤ 1000000) (hne : 0 < h.length) (o : Int) (c : Int) : Pure Tryz.prog 143 S [.int .i64 c, vH q, .int .i64 o] (A := Unit) (fun _ => rI (h.length - 1 : Nat)) (fun _ _ => True) := by
  refine pure_vc agrees Tryz.func143 rfl rfl (fun S S' q hle h => h) ?_
  refine ⟨⟨_, rfl, rfl, rfl⟩, .inl ⟨_, _, _, hlen_spec S q h hq, fun S1 _ hS1 _ => ⟨((h.length - 1 : Nat) : Int), ?_, rfl, (), rfl, trivial⟩⟩⟩
  show IntKind.i64.wrap (((h.length : Nat) : Int) - 1) = _
  rw [wrap_i64 (by omega) (by omega)]; omega
/-- A function that picks a message. -/
def PickIs (v : Value) (pk : Nat → Nat → Nat) : Prop := ∃ (g : Nat) (c : Int), v = .func (.func g) #[.int .i64 c] #[] ∧ Go.Vc.Enters Tryz.prog g ∧ ∀ (S : Store) (q : Hd) (h : List Li.Msg) (o : Nat), HsIs S q h → h.length ≤ 1000000 → o < h.length →
  pk h.length o < h.length ∧ Pure Tryz.prog g S [.int .i64 c, vH q, .int .i64 (o : Int)] (A := Unit) (fun _ => rI (pk h.length o : Nat)) (fun _ _ => True)
theorem pick_some (c : Int) (hc : inI64 c) : PickIs (.func (.func 144) #[.int .i64 c] #[]) (fun n o => Li.pickI n o c) := ⟨144, c, rfl, ⟨_, rfl, rfl, rfl⟩, fun S q h o hq hn ho => ⟨(Li.pick_lt c ho).1, some_spec S q h hq hn o ho c hc⟩⟩
theorem pick_last : PickIs (.func (.func 143) #[.int .i64 0] #[]) (fun n _ => n - 1) := ⟨143, 0, rfl, ⟨_, rfl, rfl, rfl⟩, fun S q h o hq hn ho => ⟨(show h.length - 1 < h.length by omega), last_spec S q h hq hn (by omega) _ 0⟩⟩
@[reducible] def rMWE (x : Mm × Li.Wd) : SV := .tup [(true, cMem x.1), (true, cW x.2), (false, [.v (.int .i64 0)])]
theorem look_spec (S : Store) (x : Mm) (n : Nat) (m : Li.Mem) (hx : MemIs S x m) (hf : fewM n m) (k a : Nat) (hk : k < m.vs.length) (ha : a < n) (j : Bool) (v : Value) (pk : Nat → Nat → Nat) (hv : PickIs v pk) :
    Pure Tryz.prog 142 S [vMem x, .int .i64 ((k : Int) + 1), .int .i64 (a : Int), .bool j, v] (A := Mm × Li.Wd) rMWE (fun S' y => MWPost (Li.finds m k a (pk (Li.hist m a).length ((Li.seen m k).getD a 0)) j) S' y) := by
  have ham : a < m.ms.length := by rw [hf.ok.len]; exact ha
  obtain ⟨y, hh, b, o, hm, hy, hp, hok, hrd⟩ := hx.ps.at ham
  have e : Li.hist m a = hh := by unfold Li.hist; rw [List.getD_eq_getElem?_getD, hm]; rfl
  rw [← e] at hy
  have h2 := hx.ps.len
  have hvo := Li.seen_ok hf.ok hk
  have hso : (Li.seen m k).getD a 0 < (Li.hist m a).length := hvo.2 a ham
  have hhl := hf.hist ha
  obtain ⟨g, c0, rfl, hen, hpk⟩ := hv
  have hx0 := hx
  obtain ⟨⟨p, n1, c⟩, ⟨p2, n2, c2⟩⟩ := x
  have h2 : n1 = m.ms.length := h2
  subst h2
  refine pure_vc agrees Tryz.func142 rfl rfl (fun S S' q hle h => h.le hle) ?_
  refine ⟨⟨_, rfl, rfl, rfl⟩, .inl ⟨_, _, _, wrong_spec S _ m hx0 k a hk ham, fun S1 _ hS1 _ => offE rfl ?_⟩⟩
  refine ⟨or142_4, [3, 4], oF142_4, by kernel_rfl, ?_⟩
  obtain ⟨hi, hpk2⟩ : pk (Li.hist m a).length ((Li.seen m k).getD a 0) < (Li.hist m a).length ∧ True := ⟨(hpk S y (Li.hist m a) _ hy (by omega) hso).1, trivial⟩
  refine ⟨Int.natCast_nonneg _, by show (a : Int) < ((m.ms.length : Nat) : Int); omega, b, o, hp, y, hok, Store.rd_le hS1 hrd, ?_⟩
  repeat' (first
    | exact trivial
    | refine ⟨⟨_, rfl, rfl, rfl⟩, .inl ⟨_, _, _, seen_spec S1 ((p, m.ms.length, c), p2, n2, c2) n m (hx0.le hS1) hf k hk, fun S2 u hS2 hu => ?_⟩⟩
    | refine ⟨⟨_, rfl, rfl, rfl⟩, .inl ⟨_, _, _, vatn_spec S2 u (Li.seen m k) a hu, fun S3 _ hS3 _ => ?_⟩⟩
    | refine ⟨g, #[.int .i64 c0], #[], rfl, rfl, (fun v hv => by simp at hv), hen, .inl ⟨_, _, _, (hpk S3 y (Li.hist m a) ((Li.seen m k).getD a 0) (hy.le (Store.le_trans hS1 (Store.le_trans hS2 hS3))) (by omega) hso).2, fun S4 _ hS4 _ => ?_⟩⟩
    | refine ⟨⟨_, rfl, rfl, rfl⟩, .inl ⟨_, _, _, finds_spec S4 ((p, m.ms.length, c), p2, n2, c2) n m (hx0.le (Store.le_trans hS1 (Store.le_trans hS2 (Store.le_trans hS3 hS4)))) hf k a (pk (Li.hist m a).length ((Li.seen m k).getD a 0)) hk ha hi j, fun S5 z hS5 hz => ?_⟩⟩
    | refine ⟨or142_5, [1, 2], oF142_5, by kernel_rfl, And.intro ⟨rfl, (z.1, z.2), rfl, hz⟩ (And.intro ⟨rfl, (z.1, z.2), rfl, hz⟩ trivial)⟩
    | refine And.intro ?_ ?_)
end Go.Proofs.YtapblcfbmaikjaaGreatDoor
namespace Go.Proofs.YtapblcfbmaikjaaGreatDoor
open Go Go.Vc
set_option maxRecDepth 100000
set_option maxHeartbeats 8000000

theorem load_spec (S : Store) (x : Mm) (n : Nat) (m : Li.Mem) (hx : MemIs S x m) (hf : fewM n m) (k a : Nat) (hk : k < m.vs.length) (ha : a < n) (j : Bool) (c : Int) (hc : inI64 c) :
    Pure Tryz.prog 113 S [vMem x, .int .i64 ((k : Int) + 1), .int .i64 (a : Int), .bool j, .int .i64 c] (A := Mm × Li.Wd) rMWE (fun S' y => MWPost (Li.loadM m k a j c) S' y) := by
  have h := look_spec S x n m hx hf k a hk ha j _ _ (pick_some c hc)
  refine pure_vc agrees Tryz.func113 rfl rfl (fun S S' q hle h => h.le hle) ?_
  exact ⟨⟨_, rfl, rfl, rfl⟩, .inl ⟨_, _, _, h, fun S1 z hS1 hz => ⟨rfl, (z.1, z.2), rfl, hz⟩⟩⟩
theorem mlook_spec (S : Store) (x : Mm) (n : Nat) (m : Li.Mem) (hx : MemIs S x m) (hf : fewM n m) (k a : Nat) (hk : k < m.vs.length) (ha : a < n) :
    Pure Tryz.prog 112 S [vMem x, .int .i64 ((k : Int) + 1), .int .i64 (a : Int)] (A := Mm × Li.Wd) rMWE (fun S' y => MWPost (Li.lookM m k a) S' y) := by
  have h := look_spec S x n m hx hf k a hk ha true _ _ pick_last
  refine pure_vc agrees Tryz.func112 rfl rfl (fun S S' q hle h => h.le hle) ?_
  exact ⟨⟨_, rfl, rfl, rfl⟩, .inl ⟨_, _, _, h, fun S1 z hS1 hz => ⟨rfl, (z.1, z.2), rfl, hz⟩⟩⟩
@[reducible] def rME (x : Mm) : SV := .tup [(true, cMem x), (false, [.v (.int .i64 0)])]
theorem mstore_spec (S : Store) (x : Mm) (n : Nat) (m : Li.Mem) (hx : MemIs S x m) (hf : fewM n m) (k a : Nat) (hk : k < m.vs.length) (ha : a < n) (w : Li.Wd) (hw : okW w) (j : Bool) :
    Pure Tryz.prog 105 S [vMem x, .int .i64 ((k : Int) + 1), .int .i64 (a : Int), vW w, .bool j] (A := Mm) rME (fun S' y => MemIs S' y (Li.addsM m k a w j)) := by
  refine pure_vc agrees Tryz.func105 rfl rfl (fun S S' q hle h => h.le hle) ?_
  refine ⟨⟨_, rfl, rfl, rfl⟩, .inl ⟨_, _, _, wrong_spec S x m hx k a hk (by rw [hf.ok.len]; exact ha), fun S1 _ hS1 _ => offE rfl ?_⟩⟩
  exact ⟨⟨_, rfl, rfl, rfl⟩, .inl ⟨_, _, _, adds_spec S1 x n m (hx.le hS1) hf k a hk ha w hw j, fun S2 y hS2 hy => ⟨rfl, y, rfl, hy⟩⟩⟩
theorem few_finds {n : Nat} {m : Li.Mem} (hf : fewM n m) {k a i : Nat} (hk : k < m.vs.length) (ha : a < n) (hi : i < (Li.hist m a).length) (j : Bool) : fewM n (Li.finds m k a i j).1 :=
  ⟨(Li.finds_ok hf.ok hk ha hi j).1, hf.n4, by rw [(Li.finds_ok hf.ok hk ha hi j).2]; exact hf.vs, hf.hs⟩
@[reducible] def rMWBE (x : Mm × Li.Wd × Bool) : SV := .tup [(true, cMem x.1), (true, cW x.2.1), (false, [.v (.bool x.2.2)]), (false, [.v (.int .i64 0)])]
def SwPost (m : Li.Mem) (k a : Nat) (old new : Li.Wd) (S' : Store) (y : Mm × Li.Wd × Bool) : Prop := MemIs S' y.1 (Li.swapM m k a old new).1 ∧ y.2.1 = (Li.swapM m k a old new).2 ∧ okW y.2.1 ∧ y.2.2 = decide ((Li.lookM m k a).2 = old)
theorem SwPost.le {S S' : Store} (h : S.le S') {m k a old new y} (hx : SwPost m k a old new S y) : SwPost m k a old new S' y := ⟨hx.1.le h, hx.2⟩
theorem mswap_spec (S : Store) (x : Mm) (n : Nat) (m : Li.Mem) (hx : MemIs S x m) (hf : fewM n m) (k a : Nat) (hk : k < m.vs.length) (ha : a < n) (old new : Li.Wd) (hw : okW new) :
    Pure Tryz.prog 104 S [vMem x, .int .i64 ((k : Int) + 1), .int .i64 (a : Int), vW old, vW new] (A := Mm × Li.Wd × Bool) rMWBE (fun S' y => SwPost m k a old new S' y) := by
  have hpos := Li.hist_pos hf.ok ha
  have hf2 : fewM n (Li.lookM m k a).1 := few_finds hf hk ha (by omega) true
  have hk2 : k < (Li.lookM m k a).1.vs.length := by rw [(Li.look_ok hf.ok hk ha).2]; exact hk
  obtain ⟨o1, o2, o3⟩ := old
  obtain ⟨n1, n2, n3⟩ := new
  refine pure_vc agrees Tryz.func104 rfl rfl (fun S S' q hle h => h.le hle) ?_
  refine ⟨⟨_, rfl, rfl, rfl⟩, .inl ⟨_, _, _, mlook_spec S x n m hx hf k a hk ha, fun S1 z hS1 hz => offE rfl ?_⟩⟩
  obtain ⟨z1, w1, w2, w3⟩ := z
  obtain ⟨hz1, hz2, hz3⟩ := hz
  have hz1 : MemIs S1 z1 (Li.lookM m k a).1 := hz1
  have hz2 : (w1, w2, w3) = (Li.lookM m k a).2 := hz2
  have hz3 : okW (w1, w2, w3) := hz3
  have hb : (!((w1 == o1) && ((w2 == o2) && ((w3 == o3) && true)))) = !decide ((w1, w2, w3) = (o1, o2, o3)) := by
    have : ((w1 == o1) && ((w2 == o2) && ((w3 == o3) && true))) = decide ((w1, w2, w3) = (o1, o2, o3)) := by
      by_cases q : (w1, w2, w3) = (o1, o2, o3)
      · have e1 : w1 = o1 := congrArg Prod.fst q
        have e2 : w2 = o2 := congrArg (fun z : Li.Wd => z.2.1) q
        have e3 : w3 = o3 := congrArg (fun z : Li.Wd => z.2.2) q
        rw [decide_eq_true q, beq_iff_eq.2 e1, beq_iff_eq.2 e2, beq_iff_eq.2 e3]; rfl
      · rw [decide_eq_false q]
        refine Bool.eq_false_iff.2 fun z => q ?_
        rw [Bool.and_eq_true, Bool.and_eq_true, Bool.and_eq_true] at z
        rw [beq_iff_eq.1 z.1, beq_iff_eq.1 z.2.1, beq_iff_eq.1 z.2.2.1]
    rw [this]
  by_cases heq : (w1, w2, w3) = (o1, o2, o3)
  · have hold : (Li.lookM m k a).2 = (o1, o2, o3) := hz2.symm.trans heq
    have hsw : Li.swapM m k a (o1, o2, o3) (n1, n2, n3) = (Li.addsM (Li.lookM m k a).1 k a (n1, n2, n3) true, (Li.lookM m k a).2) := by unfold Li.swapM; rw [if_pos hold]
    have had := adds_spec S1 z1 n (Li.lookM m k a).1 hz1 hf2 k a hk2 ha (n1, n2, n3) hw true
    have fin : ∀ (S5 : Store) (y : Mm), MemIs S5 y (Li.addsM (Li.lookM m k a).1 k a (n1, n2, n3) true) → SwPost m k a (o1, o2, o3) (n1, n2, n3) S5 (y, (w1, w2, w3), true) := fun S5 y hy => by
      refine ⟨by rw [hsw]; exact hy, by rw [hsw]; exact hz2, hz3, ?_⟩
      rw [decide_eq_true hold]
    refine offE (hb.trans (by rw [decide_eq_true heq]; rfl)) ⟨or104_4, [3, 4], oF104_4, by kernel_rfl, ?_⟩
    refine And.intro ⟨⟨_, rfl, rfl, rfl⟩, .inl ⟨_, _, _, had, fun S5 y5 hS5 hy5 => And.intro ?_ (And.intro ?_ trivial)⟩⟩ (And.intro ⟨⟨_, rfl, rfl, rfl⟩, .inl ⟨_, _, _, had, fun S5 y5 hS5 hy5 => ?_⟩⟩ trivial)
    all_goals exact ⟨rfl, (y5, (w1, w2, w3), true), rfl, fin S5 y5 hy5⟩
  · have hold : ¬ (Li.lookM m k a).2 = (o1, o2, o3) := fun q => heq (hz2.trans q)
    have hsw : Li.swapM m k a (o1, o2, o3) (n1, n2, n3) = Li.lookM m k a := by unfold Li.swapM; rw [if_neg hold]
    have fin : SwPost m k a (o1, o2, o3) (n1, n2, n3) S1 (z1, (w1, w2, w3), false) := ⟨by rw [hsw]; exact hz1, by rw [hsw]; exact hz2, hz3, by rw [decide_eq_false hold]⟩
    refine onE (hb.trans (by rw [decide_eq_false heq]; rfl)) ⟨or104_3, [3, 4], oF104_3, by kernel_rfl, ?_⟩
    exact And.intro ⟨rfl, (z1, (w1, w2, w3), false), rfl, fin⟩ (And.intro ⟨rfl, (z1, (w1, w2, w3), false), rfl, fin⟩ trivial)
end Go.Proofs.YtapblcfbmaikjaaGreatDoor
