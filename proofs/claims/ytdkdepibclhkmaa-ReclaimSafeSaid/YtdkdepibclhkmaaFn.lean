/- law15: ReclaimSafe. -/
import Derived.Test.YtdkdepibclhkmaaFm
namespace Go.Proofs.Ytdkdepibclhkmaa
open Go Go.Vc
set_option maxRecDepth 100000

/-- Each of these counted once. -/
@[reducible] def oM (l : List Int) : List (Int × Int) := l.map fun x => (x, 1)
theorem oM_keys (l : List Int) : (oM l).map (·.1) = l := by
  induction l with
  | nil => rfl
  | cons x l ih => simp only [oM, List.map_cons] at ih ⊢; rw [ih]
theorem mset_oM {l : List Int} {x : Int} (h : x ∉ l) : mset shI (oM l) x (1 : Int) = oM (l ++ [x]) := by
  rw [mset_new (k := shI) rfl (by rw [oM_keys]; exact h)]
  simp [oM]
theorem mget_oM_out {l : List Int} {x : Int} (h : x ∉ l) : mget shI (oM l) x = none :=
  (mget_none (k := shI) rfl).2 (by rw [oM_keys]; exact h)
theorem mget_oM {l : List Int} (hl : l.Nodup) {x : Int} (h : x ∈ l) : mget shI (oM l) x = some (1 : Int) :=
  (mget_some (k := shI) rfl (show keysOnce (k := shI) (oM l) from by unfold keysOnce; rw [oM_keys]; exact hl)).2 (List.mem_map.2 ⟨x, h, rfl⟩)
theorem nodup_at {l : List Int} (h : l.Nodup) {i : Nat} {x : Int} (hx : l[i]? = some x) : x ∉ l.take i := by
  have h1 : (l.take i ++ [x]).Nodup := by
    have := h.sublist (List.take_sublist (i + 1) l)
    rwa [List.take_add_one, hx] at this
  rw [List.nodup_append] at h1
  exact fun hm => h1.2.2 x hm x (by simp) rfl

theorem kept_gone {B : List It} (hgb : GoodBag B) {ann held : List Int} {y : Int} (hy : y ∈ goneOf B ann held) : ∀ x ∈ B, x.1 = y → way x ann held = false := by
  intro x hx e
  obtain ⟨x0, h1, h2, h3⟩ := gone_mem.1 hy
  rw [hgb.eq_of hx h1 (by rw [e, h3])]
  exact h2
theorem kept_mem {xs : List It} {ann held : List Int} {b : Int} : b ∈ (keptOf xs ann held).map (·.1) ↔ ∃ x ∈ xs, way x ann held = true ∧ x.1 = b := by
  rw [List.mem_map]
  constructor
  · rintro ⟨x, h1, h2⟩
    obtain ⟨h3, h4⟩ := List.mem_filter.1 h1
    exact ⟨x, h3, h4, h2⟩
  · rintro ⟨x, h1, h2, h3⟩
    exact ⟨x, List.mem_filter.2 ⟨h1, h2⟩, h3⟩
theorem gone_kept {B : List It} (hgb : GoodBag B) {ann held : List Int} {y : Int} (hy : y ∈ goneOf B ann held) : y ∉ (keptOf B ann held).map (·.1) := by
  intro h
  obtain ⟨x, h1, h2, h3⟩ := kept_mem.1 h
  rw [kept_gone hgb hy x h1 h3] at h2
  cases h2
theorem kept_kept (B : List It) (ann held : List Int) : keptOf (keptOf B ann held) ann held = keptOf B ann held := by
  rw [keptOf, keptOf, List.filter_filter]
  simp
theorem gone_none2 (B : List It) (ann held : List Int) : goneOf (keptOf B ann held) ann held = [] := by
  rw [goneOf, keptOf, List.filter_filter]
  have : (fun x => !(way x ann held) && way x ann held) = fun _ => false := funext fun x => by cases way x ann held <;> rfl
  rw [this]
  simp
theorem both_length (B : List It) (ann held : List Int) : (keptOf B ann held).length + (goneOf B ann held).length = B.length := by
  rw [keptOf, goneOf, List.length_map]
  induction B with
  | nil => rfl
  | cons x B ih =>
    simp only [List.filter_cons]
    cases way x ann held <;> simp <;> omega

set_option maxHeartbeats 1000000 in
theorem safe_law (S : Store) (p q o : Hd) (xs : List It) (ann held : List Int) (hl : xs.length = p.2.1) (hr : RowRd S p.1 shT xs) (hm : ann.length = q.2.1) (hr' : RowRd S q.1 shI ann) (ho : held.length = o.2.1) (hr2 : RowRd S o.1 shI held) :
    Pure Try.prog 5 S [slV p, slV q, slV o] rB (fun _ b => b = true) := by
  refine pure_vc agrees Try.func5 rfl rfl (fun S S' q hle h => h) ?_
  refine ⟨⟨_, rfl, rfl, rfl⟩, .inl ⟨_, _, _, few_spec S p q o, fun S1 w hS1 hw => ?_⟩⟩
  have hw : w = (decide (p.2.1 ≤ 100) && decide (q.2.1 ≤ 40) && decide (o.2.1 ≤ 40)) := hw
  refine And.intro (fun h0 => ?_) (fun h0 => ?_)
  · exact ⟨⟨_, rfl, rfl, rfl⟩, .inl ⟨_, _, _, awake_spec S1, fun S2 b hS2 hb => ⟨rfl, _, rfl, hb⟩⟩⟩
  have h0 : (!w) = false := h0
  have hw1 : w = true := by simpa using h0
  rw [hw] at hw1
  simp only [Bool.and_eq_true, decide_eq_true_eq] at hw1
  obtain ⟨⟨n1, n2⟩, n3⟩ := hw1
  refine ⟨⟨_, rfl, rfl, rfl⟩, .inl ⟨_, _, _, bag_spec S1 p xs hl (hr.le hS1) (by omega), fun S2 z hS2 hz => ?_⟩⟩
  obtain ⟨b, l, cs⟩ := z
  have hz : (b.2.1 = (bagOf xs).length ∧ RowRd S2 b.1 shT (bagOf xs)) ∧ l.2.1 = (bagOf xs).length ∧ RowRd S2 l.1 shT (bagOf xs) := hz
  have hbl := bagOf_length xs
  have hgb := good_bag xs
  generalize bagOf xs = B at hz hbl hgb
  obtain ⟨⟨hb1, hb2⟩, hl1, hl2⟩ := hz
  have le12 := Store.le_trans hS1 hS2
  clear hw h0
  refine ⟨⟨_, rfl, rfl, rfl⟩, .inl ⟨_, _, _, sweep_spec S2 b q o B ann held hb1.symm hb2 hm (hr'.le le12) ho (hr2.le le12) (by omega) (by omega) (by omega), fun S3 y hS3 hy => ?_⟩⟩
  obtain ⟨k, g⟩ := y
  have hy : (k.2.1 = (keptOf B ann held).length ∧ RowRd S3 k.1 shT (keptOf B ann held)) ∧ g.2.1 = (goneOf B ann held).length ∧ RowRd S3 g.1 shI (sorted (goneOf B ann held)) := hy
  obtain ⟨⟨hk1, hk2⟩, hg1, hg2⟩ := hy
  have hkl := kept_length B ann held
  have hgl := gone_length B ann held
  have hnd := gone_nodup hgb ann held
  refine ⟨⟨_, rfl, rfl, rfl⟩, .inl ⟨_, _, _, items_spec S3 k (keptOf B ann held) hk1.symm hk2 (by omega), fun S4 u hS4 hu => ?_⟩⟩
  have hu : u.2.1 = (keptOf B ann held).length ∧ RowRd S4 u.1 shT (keptOf B ann held) := hu
  have hkd : ((keptOf B ann held).map (·.1)).Nodup := (hgb.filter _).nodup
  refine ⟨[], [], Nat, [13, 14] ++ List.range' 51 150, fun i => [(50, rI i)], fun i => [.box [.v (slV b)], .box [.v (slV k)], .map shI shI (oM (((keptOf B ann held).map (·.1)).take i))], fun _ => S4, fun i => i ≤ (keptOf B ann held).length, fun i => (keptOf B ann held).length - i, ?_⟩
  refine And.intro (Exists.intro 0 (And.intro (And.intro (And.intro ?_ rfl) (And.intro rfl (Store.le_refl _))) (Nat.zero_le _))) ?_
  · repeat' first | exact trivial | exact rfl | refine And.intro ?_ ?_
  rintro i hi
  have i0 : (0 : Int) ≤ ((i : Nat) : Int) := Int.natCast_nonneg _
  refine And.intro (fun h => ?_) (fun h => ?_)
  · have hil : i < (keptOf B ann held).length := by
      have : ((i : Nat) : Int) < ((u.2.1 : Nat) : Int) := of_decide_eq_true h
      omega
    have i1 : ((i : Nat) : Int) < ((u.2.1 : Nat) : Int) := by omega
    have hwi : IntKind.i64.wrap (((i : Nat) : Int) + 1) = ((i + 1 : Nat) : Int) := wrap_i64 (by omega) (by omega)
    have hx : (keptOf B ann held)[i]? = some (keptOf B ann held)[i] := List.getElem?_eq_getElem hil
    obtain ⟨x, hxx⟩ : ∃ x, (keptOf B ann held)[i] = x := ⟨_, rfl⟩
    rw [hxx] at hx
    obtain ⟨b1, o1, hp, hok, hrd⟩ := row_at hu.2 hx
    have hx1 : ((keptOf B ann held).map (·.1))[i]? = some x.1 := by rw [List.getElem?_map, hx]; rfl
    have hnew := nodup_at hkd hx1
    have hmg : (mget shI (oM (((keptOf B ann held).map (·.1)).take i)) x.1).getD (0 : Int) = 0 := by rw [mget_oM_out hnew]; rfl
    refine ⟨i0, i1, b1, o1, hp, x, ⟨trivial, trivial, trivial⟩, hrd, x.1, (0 : Int), rfl, rfl, (1 : Int), by rw [hmg]; rfl, x.1, (1 : Int), rfl, rfl, trivial, ((i + 1 : Nat) : Int), hwi, i + 1, ⟨⟨?_, rfl⟩, ?_, Store.le_refl _⟩, hil, ?_⟩
    · repeat' first | exact trivial | exact rfl | refine And.intro ?_ ?_
    · show [_, _, _] = [_, _, _]
      rw [mset_oM hnew, List.take_add_one, hx1]
      rfl
    · show (keptOf B ann held).length - (i + 1) < (keptOf B ann held).length - i
      omega
  · have hil : i = (keptOf B ann held).length := by
      have : ¬ ((i : Nat) : Int) < ((u.2.1 : Nat) : Int) := of_decide_eq_false h
      omega
    have htk : ((keptOf B ann held).map (·.1)).take i = (keptOf B ann held).map (·.1) := by rw [hil]; exact List.take_of_length_le (by simp)
    have hdis : ∀ y ∈ goneOf B ann held, y ∉ (keptOf B ann held).map (·.1) := fun y hy => gone_kept hgb hy
    have hfree : ∀ y ∈ goneOf B ann held, ∀ x ∈ B, x.1 = y → way x ann held = false := fun y hy => kept_gone hgb hy
    have hkl2 : ((keptOf B ann held).map (·.1)).length = (keptOf B ann held).length := List.length_map _
    obtain ⟨K, hK⟩ : ∃ K, (keptOf B ann held).map (·.1) = K := ⟨_, rfl⟩
    obtain ⟨G, hG⟩ : ∃ G, goneOf B ann held = G := ⟨_, rfl⟩
    rw [hK] at hkd hdis hkl2 htk
    rw [hG] at hdis hfree hgl hnd
    simp only [hG] at hg1 hg2
    have hsl := sorted_length G
    have hsn : (sorted G).Nodup := (sorted_perm G).nodup_iff.2 hnd
    have le24 := Store.le_trans hS3 hS4
    have le14 := Store.le_trans le12 le24
    have start : oM ((((keptOf B ann held).map (·.1)).take i)) = oM (K ++ (sorted G).take 0) := by rw [hK, htk]; simp
    have hg4 := hg2.le hS4
    refine ⟨[], [], Nat, [13, 14, 15, 16, 17, 18, 19, 20, 21, 22, 23, 24, 25, 26] ++ List.range' 63 150, fun j => [(62, rI j)], fun j => [.box [.v (slV b)], .box [.v (slV k)], .map shI shI (oM (K ++ (sorted G).take j))], fun _ => S4, fun j => j ≤ G.length, fun j => G.length - j, ?_⟩
    refine And.intro (Exists.intro 0 (And.intro (And.intro (And.intro ?_ rfl) (And.intro ?_ (Store.le_refl _))) (Nat.zero_le _))) ?_
    · repeat' first | exact trivial | exact rfl | refine And.intro ?_ ?_
    · show [_, _, _] = [_, _, _]
      rw [start]
    clear start h i0 hi hil htk
    rintro j hj
    have j0 : (0 : Int) ≤ ((j : Nat) : Int) := Int.natCast_nonneg _
    refine And.intro (fun h => ?_) (fun h => ?_)
    · have hjl : j < G.length := by
        have : ((j : Nat) : Int) < ((g.2.1 : Nat) : Int) := of_decide_eq_true h
        omega
      have j1 : ((j : Nat) : Int) < ((g.2.1 : Nat) : Int) := by omega
      have hwj : IntKind.i64.wrap (((j : Nat) : Int) + 1) = ((j + 1 : Nat) : Int) := wrap_i64 (by omega) (by omega)
      have hy : (sorted G)[j]? = some (sorted G)[j] := List.getElem?_eq_getElem (by omega)
      obtain ⟨y, hyy⟩ : ∃ y, (sorted G)[j]'(by omega) = y := ⟨_, rfl⟩
      rw [hyy] at hy
      have hyG : y ∈ G := (sorted_mem _ _).1 (List.mem_of_getElem? hy)
      have hyn : y ∉ K ++ (sorted G).take j := by
        rw [List.mem_append]
        rintro (h1 | h1)
        · exact hdis y hyG h1
        · exact nodup_at hsn hy h1
      have hy1 : IntKind.i64.wrap (y + 1) = y + 1 := by
        obtain ⟨x0, m1, m2, m3⟩ := gone_mem.1 (show y ∈ goneOf B ann held by rw [hG]; exact hyG)
        have := hgb.1 x0 m1
        exact wrap_i64 (by omega) (by omega)
      have hst : K ++ (sorted G).take (j + 1) = (K ++ (sorted G).take j) ++ [y] := by rw [List.take_add_one, hy, List.append_assoc]; rfl
      obtain ⟨b1, o1, hp, hok, hrd⟩ := row_at hg4 hy
      have hmg : (mget shI (oM (K ++ (sorted G).take j)) y).getD (0 : Int) = 0 := by rw [mget_oM_out hyn]; rfl
      refine ⟨j0, j1, b1, o1, hp, y, trivial, hrd, y, (0 : Int), rfl, rfl, (1 : Int), by rw [hmg]; rfl, y, (1 : Int), rfl, rfl, trivial, ?_⟩
      refine ⟨⟨_, rfl, rfl, rfl⟩, .inl ⟨_, _, _, items_spec S4 b B hb1.symm (hb2.le le24) (by omega), fun S5 v hS5 hv => ?_⟩⟩
      have hv : v.2.1 = B.length ∧ RowRd S5 v.1 shT B := hv
      have le15 := Store.le_trans le14 hS5
      refine ⟨[], [], Nat, [17, 18, 19, 20, 21, 22] ++ List.range' 74 150, fun c => [(73, rI c)], fun c => [.box [.v (slV b)], .box [.v (slV k)], .map shI shI (oM (K ++ (sorted G).take (j + 1)))], fun _ => S5, fun c => c ≤ B.length, fun c => B.length - c, ?_⟩
      refine And.intro (Exists.intro 0 (And.intro (And.intro (And.intro ?_ rfl) (And.intro ?_ (Store.le_refl _))) (Nat.zero_le _))) ?_
      · repeat' first | exact trivial | exact rfl | refine And.intro ?_ ?_
      · show [_, _, _] = [_, _, _]
        rw [mset_oM hyn, hst]
      rintro c hc
      have c0 : (0 : Int) ≤ ((c : Nat) : Int) := Int.natCast_nonneg _
      refine And.intro (fun h => ?_) (fun h => ?_)
      · have hcl : c < B.length := by
          have : ((c : Nat) : Int) < ((v.2.1 : Nat) : Int) := of_decide_eq_true h
          omega
        have c1 : ((c : Nat) : Int) < ((v.2.1 : Nat) : Int) := by omega
        have hwc : IntKind.i64.wrap (((c : Nat) : Int) + 1) = ((c + 1 : Nat) : Int) := wrap_i64 (by omega) (by omega)
        have hx : B[c]? = some B[c] := List.getElem?_eq_getElem hcl
        obtain ⟨x, hxx⟩ : ∃ x, B[c] = x := ⟨_, rfl⟩
        rw [hxx] at hx
        have hxB : x ∈ B := List.mem_of_getElem? hx
        obtain ⟨b2, o2, hp2, hok2, hrd2⟩ := row_at hv.2 hx
        refine ⟨c0, c1, b2, o2, hp2, x, ⟨trivial, trivial, trivial⟩, hrd2, ?_⟩
        refine And.intro (fun h7 => ?_) (fun h7 => ?_)
        · refine ⟨((c + 1 : Nat) : Int), hwc, c + 1, ⟨⟨?_, rfl⟩, rfl, Store.le_refl _⟩, hcl, ?_⟩
          · repeat' first | exact trivial | exact rfl | refine And.intro ?_ ?_
          · show B.length - (c + 1) < B.length - c
            omega
        · have h7 : (x.1 != y) = false := h7
          have hxy : x.1 = y := by simpa using h7
          have hway := hfree y hyG x hxB hxy
          have hlv : ∀ e ∈ ann, lives x e = false := by
            rw [way, Bool.or_eq_false_iff] at hway
            intro e he
            have := List.any_eq_false.1 hway.1 e he
            simpa using this
          refine ⟨[], [], Nat, [19, 20] ++ List.range' 84 150, fun d => [(83, rI d)], fun d => [.box [.v (slV b)], .box [.v (slV k)], .map shI shI (oM (K ++ (sorted G).take (j + 1))), .box [.v (.int .i64 x.1), .v (.int .i64 x.2.1), .v (.int .i64 x.2.2)]], fun _ => S5, fun d => d ≤ ann.length, fun d => ann.length - d, ?_⟩
          refine And.intro (Exists.intro 0 (And.intro (And.intro (And.intro ?_ rfl) (And.intro rfl (Store.le_refl _))) (Nat.zero_le _))) ?_
          · repeat' first | exact trivial | exact rfl | refine And.intro ?_ ?_
          rintro d hd
          have d0 : (0 : Int) ≤ ((d : Nat) : Int) := Int.natCast_nonneg _
          refine And.intro (fun h => ?_) (fun h => ?_)
          · have hdl : d < ann.length := by
              have : ((d : Nat) : Int) < ((q.2.1 : Nat) : Int) := of_decide_eq_true h
              omega
            have d1 : ((d : Nat) : Int) < ((q.2.1 : Nat) : Int) := by omega
            have hwd : IntKind.i64.wrap (((d : Nat) : Int) + 1) = ((d + 1 : Nat) : Int) := wrap_i64 (by omega) (by omega)
            have he : ann[d]? = some ann[d] := List.getElem?_eq_getElem hdl
            obtain ⟨e, hee⟩ : ∃ e, ann[d] = e := ⟨_, rfl⟩
            rw [hee] at he
            have hle := hlv e (List.mem_of_getElem? he)
            obtain ⟨b3, o3, hp3, hok3, hrd3⟩ := row_at (hr'.le le15) he
            refine ⟨d0, d1, b3, o3, hp3, e, trivial, hrd3, ?_⟩
            unfold lives at hle
            refine And.intro (fun h8 => ?_) (fun h8 => ?_)
            · have h8 : (e != 0) = true := h8
              rw [h8] at hle
              refine And.intro (fun h9 => ?_) (fun h9 => ?_)
              · have h9 : decide (x.2.1 ≤ e) = true := h9
                have h10 : decide (e ≤ x.2.2) = false := by
                  rw [decide_eq_true (show e ≥ x.2.1 from of_decide_eq_true h9)] at hle
                  simpa using hle
                refine onF' h10 ⟨((d + 1 : Nat) : Int), hwd, d + 1, ⟨⟨?_, rfl⟩, rfl, Store.le_refl _⟩, hdl, ?_⟩
                · repeat' first | exact trivial | exact rfl | refine And.intro ?_ ?_
                · show ann.length - (d + 1) < ann.length - d
                  omega
              · refine onF ⟨((d + 1 : Nat) : Int), hwd, d + 1, ⟨⟨?_, rfl⟩, rfl, Store.le_refl _⟩, hdl, ?_⟩
                · repeat' first | exact trivial | exact rfl | refine And.intro ?_ ?_
                · show ann.length - (d + 1) < ann.length - d
                  omega
            · refine onF (onF ⟨((d + 1 : Nat) : Int), hwd, d + 1, ⟨⟨?_, rfl⟩, rfl, Store.le_refl _⟩, hdl, ?_⟩)
              · repeat' first | exact trivial | exact rfl | refine And.intro ?_ ?_
              · show ann.length - (d + 1) < ann.length - d
                omega
          · refine ⟨((c + 1 : Nat) : Int), hwc, c + 1, ⟨⟨?_, rfl⟩, rfl, Store.le_refl _⟩, hcl, ?_⟩
            · repeat' first | exact trivial | exact rfl | refine And.intro ?_ ?_
            · show B.length - (c + 1) < B.length - c
              omega
      · refine ⟨[], [], Nat, [21, 22, 23, 24] ++ List.range' 106 150, fun d => [(105, rI d)], fun d => [.box [.v (slV b)], .box [.v (slV k)], .map shI shI (oM (K ++ (sorted G).take (j + 1)))], fun _ => S5, fun d => d ≤ held.length, fun d => held.length - d, ?_⟩
        refine And.intro (Exists.intro 0 (And.intro (And.intro (And.intro ?_ rfl) (And.intro rfl (Store.le_refl _))) (Nat.zero_le _))) ?_
        · repeat' first | exact trivial | exact rfl | refine And.intro ?_ ?_
        rintro d hd
        have d0 : (0 : Int) ≤ ((d : Nat) : Int) := Int.natCast_nonneg _
        refine And.intro (fun h => ?_) (fun h => ?_)
        · have hdl : d < held.length := by
            have : ((d : Nat) : Int) < ((o.2.1 : Nat) : Int) := of_decide_eq_true h
            omega
          have d1 : ((d : Nat) : Int) < ((o.2.1 : Nat) : Int) := by omega
          have hwd : IntKind.i64.wrap (((d : Nat) : Int) + 1) = ((d + 1 : Nat) : Int) := wrap_i64 (by omega) (by omega)
          have he : held[d]? = some held[d] := List.getElem?_eq_getElem hdl
          obtain ⟨e, hee⟩ : ∃ e, held[d] = e := ⟨_, rfl⟩
          rw [hee] at he
          obtain ⟨b3, o3, hp3, hok3, hrd3⟩ := row_at (hr2.le le15) he
          refine ⟨d0, d1, b3, o3, hp3, e, trivial, hrd3, ?_⟩
          refine ⟨y + 1, hy1, ?_⟩
          have hne : (e == y + 1) = false := by
            obtain ⟨x0, m1, m2, m3⟩ := gone_mem.1 (show y ∈ goneOf B ann held by rw [hG]; exact hyG)
            rw [way, Bool.or_eq_false_iff] at m2
            have := List.any_eq_false.1 m2.2 e (List.mem_of_getElem? he)
            rw [named_wrap (hgb.1 x0 m1), m3] at this
            simpa using this
          refine onF' hne ⟨((d + 1 : Nat) : Int), hwd, d + 1, ⟨⟨?_, rfl⟩, rfl, Store.le_refl _⟩, hdl, ?_⟩
          · repeat' first | exact trivial | exact rfl | refine And.intro ?_ ?_
          · show held.length - (d + 1) < held.length - d
            omega
        · refine ⟨((j + 1 : Nat) : Int), hwj, j + 1, ⟨⟨?_, rfl⟩, rfl, hS5⟩, hjl, ?_⟩
          · repeat' first | exact trivial | exact rfl | refine And.intro ?_ ?_
          · show G.length - (j + 1) < G.length - j
            omega
    · refine ⟨⟨_, rfl, rfl, rfl⟩, .inl ⟨_, _, _, items_spec S4 b B hb1.symm (hb2.le le24) (by omega), fun S5 v hS5 hv => ?_⟩⟩
      have hv : v.2.1 = B.length ∧ RowRd S5 v.1 shT B := hv
      have hjl : j = G.length := by
        have : ¬ ((j : Nat) : Int) < ((g.2.1 : Nat) : Int) := of_decide_eq_false h
        omega
      have htk : (sorted G).take j = sorted G := by rw [hjl, ← hsl, List.take_length]
      have hnall : (K ++ (sorted G).take j).Nodup := by
        rw [htk]
        refine List.nodup_append.2 ⟨hkd, hsn, fun a ha c hc e => ?_⟩
        exact hdis c ((sorted_mem _ _).1 hc) (e ▸ ha)
      have hall : ∀ x ∈ B, x.1 ∈ K ++ (sorted G).take j := fun x hx => by
        rw [htk, List.mem_append, sorted_mem, ← hG, ← hK]
        cases hw : way x ann held with
        | true => exact .inl (kept_mem.2 ⟨x, hx, hw, rfl⟩)
        | false => exact .inr (gone_mem.2 ⟨x, hx, hw, rfl⟩)
      have le25 := Store.le_trans le24 hS5
      have le15 := Store.le_trans le14 hS5
      have le35 := Store.le_trans hS4 hS5
      refine ⟨[], [], Nat, [13, 14, 15, 16, 17, 18, 19, 20, 21, 22, 23, 24, 25, 26] ++ List.range' 119 150, fun c => [(118, rI c)], fun c => [.box [.v (slV b)], .box [.v (slV k)], .map shI shI (oM (K ++ (sorted G).take j))], fun _ => S5, fun c => c ≤ B.length, fun c => B.length - c, ?_⟩
      refine And.intro (Exists.intro 0 (And.intro (And.intro (And.intro ?_ rfl) (And.intro rfl (Store.le_refl _))) (Nat.zero_le _))) ?_
      · repeat' first | exact trivial | exact rfl | refine And.intro ?_ ?_
      rintro c hc
      have c0 : (0 : Int) ≤ ((c : Nat) : Int) := Int.natCast_nonneg _
      refine And.intro (fun h => ?_) (fun h => ?_)
      · have hcl : c < B.length := by
          have : ((c : Nat) : Int) < ((v.2.1 : Nat) : Int) := of_decide_eq_true h
          omega
        have c1 : ((c : Nat) : Int) < ((v.2.1 : Nat) : Int) := by omega
        have hwc : IntKind.i64.wrap (((c : Nat) : Int) + 1) = ((c + 1 : Nat) : Int) := wrap_i64 (by omega) (by omega)
        have hx : B[c]? = some B[c] := List.getElem?_eq_getElem hcl
        obtain ⟨x, hxx⟩ : ∃ x, B[c] = x := ⟨_, rfl⟩
        rw [hxx] at hx
        have hxB : x ∈ B := List.mem_of_getElem? hx
        obtain ⟨b2, o2, hp2, hok2, hrd2⟩ := row_at hv.2 hx
        have hmg : (mget shI (oM (K ++ (sorted G).take j)) x.1).getD (0 : Int) = 1 := by rw [mget_oM hnall (hall x hxB)]; rfl
        refine ⟨c0, c1, b2, o2, hp2, x, ⟨trivial, trivial, trivial⟩, hrd2, x.1, (0 : Int), rfl, rfl, ?_⟩
        refine onF' (by rw [hmg]; rfl) ⟨((c + 1 : Nat) : Int), hwc, c + 1, ⟨⟨?_, rfl⟩, rfl, Store.le_refl _⟩, hcl, ?_⟩
        · repeat' first | exact trivial | exact rfl | refine And.intro ?_ ?_
        · show B.length - (c + 1) < B.length - c
          omega
      · refine ⟨⟨_, rfl, rfl, rfl⟩, .inl ⟨_, _, _, sweep_spec S5 k q o (keptOf B ann held) ann held hk1.symm (hk2.le le35) hm (hr'.le le15) ho (hr2.le le15) (by omega) (by omega) (by omega), fun S6 y hS6 hy => ?_⟩⟩
        obtain ⟨k2, g2⟩ := y
        have hy : (k2.2.1 = (keptOf (keptOf B ann held) ann held).length ∧ RowRd S6 k2.1 shT (keptOf (keptOf B ann held) ann held)) ∧ g2.2.1 = (goneOf (keptOf B ann held) ann held).length ∧ RowRd S6 g2.1 shI (sorted (goneOf (keptOf B ann held) ann held)) := hy
        rw [kept_kept, gone_none2] at hy
        obtain ⟨⟨k21, -⟩, g21, -⟩ := hy
        have g21 : g2.2.1 = 0 := g21
        refine ⟨or5_40, [], oF5_40, by kernel_rfl, ?_⟩
        refine ⟨⟨_, rfl, rfl, rfl⟩, .inl ⟨_, _, _, awake_spec S6, fun S7 t hS7 ht => ?_⟩⟩
        have ht : t = true := ht
        refine onE ht ⟨⟨_, rfl, rfl, rfl⟩, .inl ⟨_, _, _, len_spec S7 b, fun S8 n hS8 hn => ?_⟩⟩
        have hn : n = ((b.2.1 : Nat) : Int) := hn
        have hbo := both_length B ann held
        have hol : (oM (K ++ (sorted G).take j)).length = B.length := by
          rw [htk]
          simp only [oM, List.length_map, List.length_append]
          rw [hG] at hbo
          omega
        refine onE (by show ((((oM (K ++ (sorted G).take j)).length : Nat) : Int) == n) = true; rw [hol, hn, hb1]; simp) ?_
        refine onE (by rw [g21]; rfl) ?_
        refine ⟨⟨_, rfl, rfl, rfl⟩, .inl ⟨_, _, _, len_spec S8 k2, fun S9 m1 hS9 hm1 => ?_⟩⟩
        have hm1 : m1 = ((k2.2.1 : Nat) : Int) := hm1
        refine ⟨⟨_, rfl, rfl, rfl⟩, .inl ⟨_, _, _, len_spec S9 k, fun S10 m2 hS10 hm2 => ?_⟩⟩
        have hm2 : m2 = ((k.2.1 : Nat) : Int) := hm2
        exact ⟨rfl, _, rfl, by rw [hm1, hm2, k21, hk1]; simp⟩
end Go.Proofs.Ytdkdepibclhkmaa
