/- law29, Nests: Guard over the outermost call; the law says true. -/
import Derived.Test.YtjlkekebhgjlcaaDoorFp
namespace Go.Proofs.YtjlkekebhgjlcaaDoor
open Go Go.Vc
set_option maxRecDepth 100000

/-- The outermost closure. -/
theorem first_walk (w : World) (bo bd bD bk bn : Nat) (deep k n : Int) (h : NS w bo bd bD bk bn deep k n) (R : Ending → World → Prop)
    (hc : Calls Tryd.prog 12 #[.int .i64 0, .pointer (some ⟨bo, 0, none⟩), .pointer (some ⟨bd, 0, none⟩), .pointer (some ⟨bD, 0, none⟩), .pointer (some ⟨bk, 0, none⟩), .pointer (some ⟨bn, 0, none⟩)] w fun e w' => nestE k n 0 e ∧ R e w') :
    Calls Tryd.prog 15 #[.pointer (some ⟨bD, 0, none⟩)] w fun e w' => nestE k n 0 e ∧ R e w' := by
  have hE : ∀ args w, (callFunc 12 args).run Tryd.prog w = .ok (.enter 12 args) w := enters_of Tryd.func12 (by kernel_rfl) rfl
  have h1 := h.f
  by_cases e1 : 0 = k
  · subst e1
    simp only [nestE, if_true] at hc ⊢
    go_enter Tryd.func15, Tryd.ntmps15
    go_wp2_with (go_at_call 12; refine hc.mono ?_; rintro e w' ⟨rfl, hR⟩)
    exact ⟨rfl, rfl, hR⟩
  · simp only [nestE, if_neg e1, Int.add_zero] at hc ⊢
    go_enter Tryd.func15, Tryd.ntmps15
    go_wp2_with (go_at_call 12; refine hc.mono ?_; rintro e w' ⟨rfl, hR⟩)
    go_ret
    exact ⟨rfl, hR⟩

theorem first_guard (w : World) (bo bd bD bk bn : Nat) (deep k n : Int) (m : Nat) (hd : deep ≤ 20) (hm : (m : Int) = deep) (h : NS w bo bd bD bk bn deep k n) (ho : OrdNil w bo) :
    Calls Tryd.prog 8 #[.func (.func 15) #[] #[.pointer (some ⟨bD, 0, none⟩)]] w fun e w' => e = .returned (.tuple #[.int .i64 (nestR k n 0).1, .string (nestR k n 0).2.1, .bool (nestR k n 0).2.2]) ∧ OrdAt w' (w.heap.size + 3) bo (desc deep m) ∧ OldX (fun b => b = bo) w w' := by
  have hb := ho.lt
  refine (guard_core2 (fun b => b = bo) w (fun b hb' => by rw [hb']; exact hb) 15 [_] (fun e w4 => nestE k n 0 e ∧ OrdAt w4 (w.heap.size + 3) bo (desc deep m)) (fun x w4 => x = nestR k n 0 ∧ OrdAt w4 (w.heap.size + 3) bo (desc deep m)) (enters_of Tryd.func15 (by kernel_rfl) rfl) (fun w3 hold hz3 => ?_) (fun e w4 he => ?_)).mono ?_
  · refine (first_walk w3 bo bd bD bk bn deep k n (h.keep (OldX.of hold)) _ (do_walk bo bd bD bk bn deep k n hd m 0 (by omega) (by omega) w3 (h.keep (OldX.of hold)) (ho.old hold))).mono ?_
    rintro e w4 ⟨he, ho, hx⟩
    rw [hz3] at ho
    exact ⟨hx, he, ho⟩
  · obtain ⟨he, ho⟩ := he
    unfold nestE at he
    unfold nestR
    split at he
    · rename_i e1; rw [if_pos e1]; exact .inr ⟨_, _, [], ⟨fun _ _ => none, fun _ => none⟩, he, rfl, ⟨fun _ _ _ h => (by cases h), fun _ _ h => (by cases h)⟩, said_string _ _, rfl, ho⟩
    · rename_i e1; rw [if_neg e1]; exact .inl ⟨_, he, rfl, ho⟩
  · rintro e w' ⟨x, w4, rfl, ⟨rfl, ho⟩, hx, hsz, hkeep⟩
    exact ⟨rfl, ho.keep fun b hb' hc => hkeep b hb' (hc.elim (fun e => .inl (by rw [e]; exact hb)) .inr), hx⟩

/-- What was known, and all that is new. -/
noncomputable def _root_.Go.Vc.Store.plus (S : Store) (w w' : World) : Store :=
  ⟨fun b o => if b < w.heap.size then S.c b o else (Store.of w').c b o, fun b => if b < w.heap.size then S.o b else (Store.of w').o b⟩

theorem box_clo {ρ : List Value} {h : Value} {w : World} {f : Nat} {cs : List (Nat ⊕ Value)} (hb : Res.holds ρ h w (.box [.clo f cs])) : ∃ b T, ∃ ys : List Value, h = .pointer (some ⟨b, 0, none⟩) ∧ w.heap[b]? = some (.cells #[.func (.func f) #[] ys.toArray] T (0, 0)) ∧ ys.length = cs.length ∧ ∀ (j : Nat) c z, cs[j]? = some c → ys[j]? = some z → capRel ρ c z := by
  obtain ⟨b, T, xs, rfl, h1, h2⟩ := hb
  match xs, h2 with
  | ⟨[y]⟩, ⟨⟨ys, hy, h3, h4⟩, _⟩ => subst hy; exact ⟨b, T, ys, rfl, h1, h3, h4⟩

set_option maxHeartbeats 1000000 in
theorem nests_spec (S : Store) (deep k n : Int) (m : Nat) (hd : deep ≤ 20) (hm : (m : Int) = deep) :
    SpecR Tryd.prog 8 S [.box [.v (.slice none 0 0)], .box [.v (.int .i64 deep)], .box [.clo 12 [.inl 0, .inl 1, .inl 2, .inl 3, .inl 4]], .box [.v (.int .i64 k)], .box [.v (.int .i64 n)]] [.c (.clo 15 [.inl 2])] (A := Option Addr × Nat) (fun _ => gOut (nestR k n 0))
      (fun x => [.box [.v (.slice x.1 (m + 1) x.2)], .box [.v (.int .i64 deep)], .box [.clo 12 [.inl 0, .inl 1, .inl 2, .inl 3, .inl 4]], .box [.v (.int .i64 k)], .box [.v (.int .i64 n)]]) (fun S' x => RowRd S' x.1 shI (desc deep m)) := by
  intro w ρ vs hst hargs
  obtain ⟨h0, r0, x0⟩ := hst.res 0 _ rfl
  obtain ⟨h1, r1, x1⟩ := hst.res 1 _ rfl
  obtain ⟨h2, r2, x2⟩ := hst.res 2 _ rfl
  obtain ⟨h3, r3, x3⟩ := hst.res 3 _ rfl
  obtain ⟨h4, r4, x4⟩ := hst.res 4 _ rfl
  obtain ⟨b0, T0, rfl, k0⟩ := box_one x0
  obtain ⟨b1, T1, rfl, k1⟩ := box_one x1
  obtain ⟨b2, T2, ys, rfl, k2, l2, q2⟩ := box_clo x2
  obtain ⟨b3, T3, rfl, k3⟩ := box_one x3
  obtain ⟨b4, T4, rfl, k4⟩ := box_one x4
  have n1 : b1 ≠ b0 := fun e => by have := hst.disj 1 0 _ _ _ _ b0 rfl rfl rfl rfl r1 r0 (by rw [← e]; rfl) rfl; cases this
  have n2 : b2 ≠ b0 := fun e => by have := hst.disj 2 0 _ _ _ _ b0 rfl rfl rfl rfl r2 r0 (by rw [← e]; rfl) rfl; cases this
  have n3 : b3 ≠ b0 := fun e => by have := hst.disj 3 0 _ _ _ _ b0 rfl rfl rfl rfl r3 r0 (by rw [← e]; rfl) rfl; cases this
  have n4 : b4 ≠ b0 := fun e => by have := hst.disj 4 0 _ _ _ _ b0 rfl rfl rfl rfl r4 r0 (by rw [← e]; rfl) rfl; cases this
  have cap : ∀ {i : Nat} {b : Nat} {z : Value}, ρ[i]? = some (.pointer (some ⟨b, 0, none⟩)) → capRel ρ (.inl i) z → z = .pointer (some ⟨b, 0, none⟩) := by
    rintro i b z hi ⟨c, g, rfl⟩
    rw [hi] at g
    cases g
    rfl
  match ys, l2 with
  | [y0, y1, y2, y3, y4], _ =>
  obtain rfl := cap r0 (q2 0 _ _ rfl rfl)
  obtain rfl := cap r1 (q2 1 _ _ rfl rfl)
  obtain rfl := cap r2 (q2 2 _ _ rfl rfl)
  obtain rfl := cap r3 (q2 3 _ _ rfl rfl)
  obtain rfl := cap r4 (q2 4 _ _ rfl rfl)
  match vs, hargs with
  | [v], ⟨hv, _⟩ =>
  obtain ⟨zs, rfl, hlen, hcap⟩ := hv
  match zs, hlen with
  | [z0], _ =>
  obtain rfl := cap r2 (hcap 0 _ _ rfl rfl)
  have hns : NS w b0 b1 b2 b3 b4 deep k n := ⟨(one_cell k1).1, (one_cell k2).1, (one_cell k3).1, (one_cell k4).1, n1, n2, n3, n4⟩
  refine (first_guard w b0 b1 b2 b3 b4 deep k n m hd hm hns ⟨T0, k0⟩).mono ?_
  rintro e w' ⟨rfl, ⟨g, T, g0, g1, g2, g3, g4⟩, hx⟩
  have hb0 : b0 < w.heap.size := (Array.getElem?_eq_some_iff.1 k0).1
  have hgp : ∃ p c, g = .slice p (m + 1) c ∧ RowRd (S.plus w w') p shI (desc deep m) := by
    obtain ⟨p, c, rfl, hr1, hr2⟩ := rd_row g2 g3
    refine ⟨p, c, by rw [desc_length], ?_, hr2⟩
    rcases hr1 with e | ⟨b, o, rfl, hrd⟩
    · exact .inl e
    · refine .inr ⟨b, o, rfl, fun j x hj => ?_⟩
      have : ¬ b < w.heap.size := by have := (g4 b rfl).1; omega
      simp only [Store.plus, if_neg this]
      exact hrd j x hj
  obtain ⟨p, c, rfl, hrow⟩ := hgp
  have hlt : ∀ b, w.heap.size ≤ b → (∀ o, S.c b o = none) ∧ S.o b = none := fun b hb => Store.lt_of hst.sub hb
  have hleS : S.le (S.plus w w') := by
    constructor
    · intro b o y hy
      simp only [Store.plus]
      split
      · exact hy
      · rename_i hn; rw [(hlt b (by omega)).1 o] at hy; cases hy
    · intro b y hy
      simp only [Store.plus]
      split
      · exact hy
      · rename_i hn; rw [(hlt b (by omega)).2] at hy; cases hy
  obtain ⟨_, _, o3, o4⟩ := hst.own 0 _ _ b0 rfl rfl r0 rfl
  have hold : S.le (Store.of w') := Store.le_of hst.sub fun b hb => by
    have hne : b ≠ b0 := by
      rintro rfl
      rcases hb with ⟨o, x, hx⟩ | ⟨x, hx⟩
      · rw [o3 o] at hx; cases hx
      · rw [o4] at hx; cases hx
    refine hx.block b ?_ hne
    rcases Nat.lt_or_ge b w.heap.size with h | h
    · exact h
    · rcases hb with ⟨o, x, hx⟩ | ⟨x, hx⟩
      · rw [(hlt b h).1 o] at hx; cases hx
      · rw [(hlt b h).2] at hx; cases hx
  have hsub : (S.plus w w').le (Store.of w') := by
    constructor
    · intro b o y hy
      simp only [Store.plus] at hy
      split at hy
      · exact hold.1 b o y hy
      · exact hy
    · intro b y hy
      simp only [Store.plus] at hy
      split at hy
      · exact hold.2 b y hy
      · exact hy
  have hS : ∀ b, b < w.heap.size → (∀ i, (S.plus w w').c b i = S.c b i) ∧ (S.plus w w').o b = S.o b := fun b hb => by
    simp only [Store.plus, if_pos hb]; exact ⟨fun _ => trivial, trivial⟩
  have hk : ∀ {b : Nat} {o : Obj}, w.heap[b]? = some o → b ≠ b0 → w'.heap[b]? = some o := fun hb hne => by
    rw [hx.block _ (Array.getElem?_eq_some_iff.1 hb).1 hne]; exact hb
  refine ⟨_, (p, c), S.plus w w', ρ, rfl, ⟨[_, _, _], rfl, ⟨rfl, rfl⟩, ⟨rfl, rfl⟩, ⟨rfl, rfl⟩, trivial⟩, rfl, ?_, hleS, fun b hb _ => hS b hb, hrow⟩
  refine ⟨hst.len, ?_, ?_, ?_, hsub, hx.os, hx.tape, hx.output, hx.size, ?_, ?_, hst.pre⟩
  · intro i x hi
    match i, hi with
    | 0, hi => cases hi; exact ⟨_, r0, b0, T, _, rfl, g0, ⟨⟨rfl, rfl⟩, trivial⟩⟩
    | 1, hi => cases hi; exact ⟨_, r1, b1, T1, _, rfl, hk k1 n1, ⟨⟨rfl, rfl⟩, trivial⟩⟩
    | 2, hi => cases hi; exact ⟨_, r2, b2, T2, _, rfl, hk k2 n2, ⟨⟨_, rfl, rfl, q2⟩, trivial⟩⟩
    | 3, hi => cases hi; exact ⟨_, r3, b3, T3, _, rfl, hk k3 n3, ⟨⟨rfl, rfl⟩, trivial⟩⟩
    | 4, hi => cases hi; exact ⟨_, r4, b4, T4, _, rfl, hk k4 n4, ⟨⟨rfl, rfl⟩, trivial⟩⟩
  · intro i j x y g h b hi hj hxa hya hg hh f1 f2
    have fx : ∀ {i : Nat} {x : Res}, [Res.box [.v (.slice p (m + 1) c)], .box [.v (.int .i64 deep)], .box [.clo 12 [.inl 0, .inl 1, .inl 2, .inl 3, .inl 4]], .box [.v (.int .i64 k)], .box [.v (.int .i64 n)]][i]? = some x → ∃ y, [Res.box [.v (.slice none 0 0)], .box [.v (.int .i64 deep)], .box [.clo 12 [.inl 0, .inl 1, .inl 2, .inl 3, .inl 4]], .box [.v (.int .i64 k)], .box [.v (.int .i64 n)]][i]? = some y ∧ y.alive = true ∧ ∀ h b, x.foot h b → y.foot h b := by
      intro i x hi
      match i, hi with
      | 0, hi => cases hi; exact ⟨_, rfl, rfl, fun _ _ f => f⟩
      | 1, hi => cases hi; exact ⟨_, rfl, rfl, fun _ _ f => f⟩
      | 2, hi => cases hi; exact ⟨_, rfl, rfl, fun _ _ f => f⟩
      | 3, hi => cases hi; exact ⟨_, rfl, rfl, fun _ _ f => f⟩
      | 4, hi => cases hi; exact ⟨_, rfl, rfl, fun _ _ f => f⟩
    obtain ⟨x', hx1, hx2, hx3⟩ := fx hi
    obtain ⟨y', hy1, hy2, hy3⟩ := fx hj
    exact hst.disj i j x' y' g h b hx1 hy1 hx2 hy2 hg hh (hx3 g b f1) (hy3 h b f2)
  · intro i x h b hi hxa hh f
    have fx : ∃ y, [Res.box [.v (.slice none 0 0)], .box [.v (.int .i64 deep)], .box [.clo 12 [.inl 0, .inl 1, .inl 2, .inl 3, .inl 4]], .box [.v (.int .i64 k)], .box [.v (.int .i64 n)]][i]? = some y ∧ y.alive = true ∧ y.foot h b := by
      match i, hi with
      | 0, hi => cases hi; exact ⟨_, rfl, rfl, f⟩
      | 1, hi => cases hi; exact ⟨_, rfl, rfl, f⟩
      | 2, hi => cases hi; exact ⟨_, rfl, rfl, f⟩
      | 3, hi => cases hi; exact ⟨_, rfl, rfl, f⟩
      | 4, hi => cases hi; exact ⟨_, rfl, rfl, f⟩
    obtain ⟨y, hy1, hy2, hy3⟩ := fx
    obtain ⟨p1, p2, p3, p4⟩ := hst.own i y h b hy1 hy2 hh hy3
    exact ⟨Nat.lt_of_lt_of_le p1 hx.size, p2, fun o => by rw [(hS b p1).1 o]; exact p3 o, by rw [(hS b p1).2]; exact p4⟩
  · intro b hb hp
    exact hx.block b hb fun e => hp ⟨0, _, _, rfl, rfl, r0, by rw [e]; rfl⟩
  · intro b hb hp
    exact ⟨fun o x hx => by rw [← (hS b hb).1 o]; exact hx, fun x hx => by rw [← (hS b hb).2]; exact hx⟩

theorem desc_get (deep : Int) : ∀ (m i : Nat), i ≤ m → (desc deep m)[i]? = some (deep - i)
  | 0, i, h => by obtain rfl : i = 0 := by omega
                  simp [desc]
  | m + 1, i, h => by
    simp only [desc]
    rcases Nat.lt_or_ge i (m + 1) with h1 | h1
    · rw [List.getElem?_append_left (by rw [desc_length]; exact h1)]
      exact desc_get deep m i (by omega)
    · obtain rfl : i = m + 1 := by omega
      rw [List.getElem?_append_right (by rw [desc_length]; omega), desc_length]
      simp

set_option maxHeartbeats 1000000 in
theorem law_nests (S : Store) (hT : Tab S) (d : Int) (hd0 : 0 ≤ d) (a : Int) (ha0 : 0 ≤ a) (ha1 : a ≤ 255) (n : Int) (hn : inI64 n) :
    Pure Tryd.prog 4 S [.int .u8 d, .int .u8 a, .int .i64 n] rB (fun _ x => x = true) := by
  refine pure_vc agrees Tryd.func4 rfl rfl (fun S S' q hle h => h) ?_
  have hd20 : d.tmod 20 = d % 20 := Int.tmod_eq_emod_of_nonneg hd0
  have b1 : 0 ≤ d % 20 := Int.emod_nonneg _ (by decide)
  have b2 : d % 20 < 20 := Int.emod_lt_of_pos _ (by decide)
  have ak : a.tmod (d % 20 + 1) = a % (d % 20 + 1) := Int.tmod_eq_emod_of_nonneg ha0
  have b3 : 0 ≤ a % (d % 20 + 1) := Int.emod_nonneg _ (by omega)
  have b4 : a % (d % 20 + 1) < d % 20 + 1 := Int.emod_lt_of_pos _ (by omega)
  refine ⟨by decide, d % 20, hd20, d % 20, wrap_i64 (by omega) (by omega), a, wrap_i64 (by omega) (by omega), d % 20 + 1, wrap_i64 (by omega) (by omega), by omega, a % (d % 20 + 1), ak, ?_⟩
  refine ⟨⟨_, rfl, rfl, rfl⟩, .inr (.inl ⟨[3, 1, 4, 2, 0], _, _, _, _, rfl, nests_spec S (d % 20) (a % (d % 20 + 1)) n (d % 20).toNat (by omega) (by omega), fun S1 x hS1 hx => ?_⟩)⟩
  have hm : ((d % 20).toNat : Int) = d % 20 := Int.toNat_of_nonneg b1
  generalize hdp : d % 20 = deep at *
  generalize hkk : a % (deep + 1) = k at *
  generalize hmm : deep.toNat = m at *
  have hlen := desc_length deep m
  refine ⟨deep + 1, wrap_i64 (by omega) (by omega), And.intro (fun h => ?_) (fun _ => ?_)⟩
  · have : (((m + 1 : Nat) : Int) != deep + 1) = false := by
      rw [bne_eq_false_iff_eq]; omega
    rw [this] at h; cases h
  refine ⟨[], [], Nat, [14, 15, 24, 26] ++ List.range' 39 30, fun i => [(38, rI i)], fun _ => [.box [.v (.int .i64 n)], .box [.v (.int .i64 deep)], .box [.v (.int .i64 k)], .box [.v (.slice x.1 (m + 1) x.2)], .box [.junk]], fun _ => S1, fun i => i ≤ m + 1, fun i => m + 1 - i, ?_⟩
  refine And.intro (Exists.intro 0 (And.intro (And.intro (And.intro ?_ rfl) (And.intro rfl (Store.le_refl _))) (Nat.zero_le _))) ?_
  · repeat' first | exact trivial | exact rfl | refine And.intro ?_ ?_
  rintro i hi
  have i0 : (0 : Int) ≤ ((i : Nat) : Int) := Int.natCast_nonneg _
  refine And.intro (fun h => ?_) (fun h => ?_)
  · have hil : i < m + 1 := by
      have : ((i : Nat) : Int) < ((m + 1 : Nat) : Int) := of_decide_eq_true h
      omega
    obtain ⟨b, o, hp, hok, hrd⟩ := row_at hx (desc_get deep m i (by omega))
    refine ⟨i0, by show ((i : Nat) : Int) < ((m + 1 : Nat) : Int); omega, b, o, hp, deep - (i : Int), hok, hrd, deep - (i : Int), wrap_i64 (by omega) (by omega), And.intro (fun h => ?_) (fun _ => ?_)⟩
    · have h : ((deep - (i : Int)) != (deep - (i : Int))) = true := h
      simp at h
    · refine ⟨((i + 1 : Nat) : Int), wrap_i64 (by omega) (by omega), i + 1, ⟨⟨?_, rfl⟩, rfl, Store.le_refl _⟩, by show i + 1 ≤ m + 1; omega, by show m + 1 - (i + 1) < m + 1 - i; omega⟩
      repeat' first | exact trivial | exact rfl | refine And.intro ?_ ?_
  · have hT1 := hT.le hS1
    refine And.intro (fun h => ?_) (fun h => ?_)
    · obtain rfl : k = 0 := by simpa using h
      have hR : nestR 0 n 0 = (0, ⟨#[104, 101, 114, 101]⟩, false) := if_pos rfl
      refine ⟨⟨_, rfl, rfl, rfl⟩, .inl ⟨_, _, _, awake_spec S1 hT1, fun S4 y hS4 hy => ?_⟩⟩
      obtain rfl : y = true := hy
      rw [hR]
      refine onT (onE rfl (onE rfl ⟨rfl, _, rfl, ?_⟩))
      rw [streq]
      exact decide_eq_true rfl
    · have h : ¬ k = 0 := by simpa using h
      have hR : nestR k n 0 = (n, ByteArray.empty, true) := by
        unfold nestR; rw [if_neg (fun e => h e.symm), Int.add_zero]
        have := hn.1; have := hn.2
        unfold RowKit.wrap64
        rw [show (n + 9223372036854775808) % 18446744073709551616 - 9223372036854775808 = n by omega]
      refine ⟨⟨_, rfl, rfl, rfl⟩, .inl ⟨_, _, _, awake_spec S1 hT1, fun S4 y hS4 hy => ?_⟩⟩
      obtain rfl : y = true := hy
      rw [hR]
      refine onT (onE rfl (onE (beq_self_eq_true _) ⟨rfl, _, rfl, ?_⟩))
      rw [streq]
      exact decide_eq_true rfl
end Go.Proofs.YtjlkekebhgjlcaaDoor
