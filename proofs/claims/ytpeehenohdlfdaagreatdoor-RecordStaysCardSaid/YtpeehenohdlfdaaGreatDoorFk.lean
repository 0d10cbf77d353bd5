/- law57: the reference's Call, Answer, Commit, Crash. -/
import Derived.Test.YtpeehenohdlfdaaGreatDoorFj
namespace Go.Proofs.YtpeehenohdlfdaaGreatDoor
open Go Go.Vc Go.Sort
set_option maxRecDepth 100000
set_option maxHeartbeats 4000000

@[reducible] def rLE (x : Hd × Int) : SV := .tup [(false, [.v (slV x.1)]), (false, [.v (.int .i64 x.2)])]
def LPost (r : List Rc.Ev × Int) (S' : Store) (x : Hd × Int) : Prop := LIs S' x.1 r.1 ∧ x.2 = r.2
theorem LPost.le {S S' : Store} (h : S.le S') {r x} (hx : LPost r S x) : LPost r S' x := ⟨hx.1.le h, hx.2⟩
theorem refCrash_spec (S : Store) (q : Hd) (l : List Rc.Ev) (hl : LIs S q l) (hn : l.length ≤ 1000000) : Pure Tryz.prog 52 S [slV q] (A := Hd) (fun q => .c (.v (slV q))) (fun S' q => LIs S' q (Rc.crashR l)) := by
  have hq := li_len hl
  obtain ⟨p, n, c⟩ := q
  have hq : n = l.length := hq
  subst hq
  refine pure_vc agrees Tryz.func52 rfl rfl (fun S S' q hle h => h.le hle) ?_
  by_cases h5 : 1024 ≤ l.length
  · refine onE (decide_eq_true (by show ((l.length : Nat) : Int) ≥ 1024; omega)) ⟨rfl, (p, l.length, c), rfl, ?_⟩
    unfold Rc.crashR; rw [if_pos h5]; exact hl
  refine offE (decide_eq_false (by show ¬ ((l.length : Nat) : Int) ≥ 1024; omega)) ⟨⟨_, rfl, rfl, rfl⟩, .inl ⟨_, _, _, more_spec S (p, l.length, c) l hl hn (3, 0, 0, (bs [], none, 0, 0), 0, 0) Rc.crash ⟨rfl, rfl, rfl, rfl, ns_nil _, rfl, rfl, Nat.zero_le _, Nat.zero_le _, ⟨rfl, rfl, (fun a ha => by cases ha), rfl, rfl⟩⟩, fun S1 q' hS1 hq' => ⟨rfl, q', rfl, ?_⟩⟩⟩
  unfold Rc.crashR; rw [if_neg h5]; exact hq'
theorem refCall_spec (S : Store) (q : Hd) (l : List Rc.Ev) (hl : LIs S q l) (hll : l.length ≤ 1000000) (t n : Int) (ht : inI64 t) (hn : inI64 n) (nm : Rc.Bs) (hnm : nm.length ≤ 1000000000) (aq : Hd) (ar : List Int) (haq : NsIs S aq ar) (har : ar.length ≤ 1000000) :
    Pure Tryz.prog 49 S [slV q, .int .i64 t, .int .i64 n, vC (bs nm) aq] (A := Hd × Int) rLE (fun S' x => LPost (Rc.callR l t n nm ar) S' x) := by
  have hq := li_len hl
  obtain ⟨p, m, c⟩ := q
  have hq : m = l.length := hq
  subst hq
  refine pure_vc agrees Tryz.func49 rfl rfl (fun S S' q hle h => h.le hle) ?_
  by_cases h1 : t < 1
  · refine onE (decide_eq_true h1) (onT ⟨rfl, ((p, l.length, c), 3), rfl, ?_⟩)
    unfold Rc.callR; rw [if_pos (.inl h1)]; exact ⟨hl, rfl⟩
  by_cases h8 : t > 8
  · refine offE (decide_eq_false h1) (onE (decide_eq_true h8) ⟨rfl, ((p, l.length, c), 3), rfl, ?_⟩)
    unfold Rc.callR; rw [if_pos (.inr h8)]; exact ⟨hl, rfl⟩
  have ht8 : ¬ (t < 1 ∨ 8 < t) := by omega
  refine offE (decide_eq_false h1) (offE (decide_eq_false h8) ⟨⟨_, rfl, rfl, rfl⟩, .inl ⟨_, _, _, open_spec S (p, l.length, c) l hl hll t, fun S1 _ hS1 _ => ?_⟩⟩)
  have hl1 := hl.le hS1
  by_cases h2 : 0 ≤ Rc.openR l t
  · refine onE (decide_eq_true h2) ⟨rfl, ((p, l.length, c), 13), rfl, ?_⟩
    unfold Rc.callR; rw [if_neg ht8, if_pos h2]; exact ⟨hl1, rfl⟩
  refine offE (decide_eq_false h2) ⟨⟨_, rfl, rfl, rfl⟩, .inl ⟨_, _, _, last_spec S1 (p, l.length, c) l hl1 hll t, fun S2 _ hS2 _ => ?_⟩⟩
  have hl2 := hl1.le hS2
  by_cases h3 : n ≤ Rc.lastR l t
  · refine onE (decide_eq_true h3) ⟨rfl, ((p, l.length, c), 12), rfl, ?_⟩
    unfold Rc.callR; rw [if_neg ht8, if_neg h2, if_pos h3]; exact ⟨hl2, rfl⟩
  refine offE (decide_eq_false h3) ⟨⟨_, rfl, rfl, rfl⟩, .inl ⟨_, _, _, refName_spec S2 nm hnm, fun S3 _ hS3 _ => ?_⟩⟩
  have hl3 := hl2.le hS3
  cases h4 : Sc.namedW nm with
  | false =>
    refine onT ⟨rfl, ((p, l.length, c), 16), rfl, ?_⟩
    unfold Rc.callR; rw [if_neg ht8, if_neg h2, if_neg h3, if_pos h4]; exact ⟨hl3, rfl⟩
  | true =>
    have hal : aq.2.1 = ar.length := haq.len
    refine onF ?_
    by_cases h5 : 4 < ar.length
    · refine onE (decide_eq_true (by show ((aq.2.1 : Nat) : Int) > 4; omega)) ⟨rfl, ((p, l.length, c), 15), rfl, ?_⟩
      unfold Rc.callR; rw [if_neg ht8, if_neg h2, if_neg h3, if_neg (by rw [h4]; simp), if_pos h5]; exact ⟨hl3, rfl⟩
    refine offE (decide_eq_false (by show ¬ ((aq.2.1 : Nat) : Int) > 4; omega)) ?_
    by_cases h6 : 1024 ≤ l.length
    · refine onE (decide_eq_true (by show ((l.length : Nat) : Int) ≥ 1024; omega)) ⟨rfl, ((p, l.length, c), 9), rfl, ?_⟩
      unfold Rc.callR; rw [if_neg ht8, if_neg h2, if_neg h3, if_neg (by rw [h4]; simp), if_neg h5, if_pos h6]; exact ⟨hl3, rfl⟩
    refine offE (decide_eq_false (by show ¬ ((l.length : Nat) : Int) ≥ 1024; omega)) ⟨⟨_, rfl, rfl, rfl⟩, .inl ⟨_, _, _, more_spec S3 (p, l.length, c) l hl3 hll (0, t, n, (bs nm, aq), 0, 0) ⟨0, t, n, nm, ar, 0, 0⟩ ⟨rfl, rfl, rfl, rfl, ((haq.le hS1).le hS2).le hS3, rfl, rfl, hnm, har, ⟨in64_iff.2 ht, in64_iff.2 hn, fun a ha => in64_iff.2 (haq.ins a ha), rfl, rfl⟩⟩, fun S4 q' hS4 hq' => ⟨rfl, (q', 0), rfl, ?_⟩⟩⟩
    unfold Rc.callR; rw [if_neg ht8, if_neg h2, if_neg h3, if_neg (by rw [h4]; simp), if_neg h5, if_neg h6]; exact ⟨hq', rfl⟩
/-- The number of the open call. -/
theorem num_at {S : Store} {p : Option Addr} {n c : Nat} {l : List Rc.Ev} (hl : LIs S (p, n, c) l) {t : Int} (h : ¬ Rc.openR l t < 0) : ∃ b o xn, p = some ⟨b, o, none⟩ ∧ S.rd b (o + (Rc.openR l t).toNat * 7 + 2) [.int .i64 xn] ∧ xn = Rc.numAt l (Rc.openR l t) ∧ (Rc.openR l t).toNat < l.length ∧ Sc.in64 xn = true := by
  cases hm : Rc.openM l t with
  | none => exact absurd (Rc.open_iff.2 hm) h
  | some c =>
    obtain ⟨i, e, h1, h2, -⟩ := Rc.open_some hm
    have hil := Rc.get_lt h2
    obtain ⟨x, e', b, o, he, hx, hp, hrd⟩ := ev_at hl hil
    rw [h2] at he
    obtain rfl := Option.some.inj he
    obtain ⟨xk, xt, xn, xr⟩ := x
    have hn : xn = e.n := hx.n
    rw [h1, Int.toNat_natCast]
    refine ⟨b, o, xn, hp, rd_field hrd rfl, ?_, hil, by rw [hn]; exact hx.wide.2.1⟩
    unfold Rc.numAt; rw [Int.toNat_natCast, h2]; exact hn
theorem refAnswer_spec (S : Store) (q : Hd) (l : List Rc.Ev) (hl : LIs S q l) (hll : l.length ≤ 1000000) (t er va : Int) (ht : inI64 t) (her : inI64 er) (hva : inI64 va) :
    Pure Tryz.prog 50 S [slV q, .int .i64 t, .agg #[.int .i64 er, .int .i64 va]] (A := Hd × Int) rLE (fun S' x => LPost (Rc.answerR l t er va) S' x) := by
  have hq := li_len hl
  obtain ⟨p, m, c⟩ := q
  have hq : m = l.length := hq
  subst hq
  refine pure_vc agrees Tryz.func50 rfl rfl (fun S S' q hle h => h.le hle) ?_
  by_cases h1 : t < 1
  · refine onE (decide_eq_true h1) (onT ⟨rfl, ((p, l.length, c), 3), rfl, ?_⟩)
    unfold Rc.answerR; rw [if_pos (.inl h1)]; exact ⟨hl, rfl⟩
  by_cases h8 : t > 8
  · refine offE (decide_eq_false h1) (onE (decide_eq_true h8) ⟨rfl, ((p, l.length, c), 3), rfl, ?_⟩)
    unfold Rc.answerR; rw [if_pos (.inr h8)]; exact ⟨hl, rfl⟩
  have ht8 : ¬ (t < 1 ∨ 8 < t) := by omega
  refine offE (decide_eq_false h1) (offE (decide_eq_false h8) ⟨⟨_, rfl, rfl, rfl⟩, .inl ⟨_, _, _, open_spec S (p, l.length, c) l hl hll t, fun S1 _ hS1 _ => ?_⟩⟩)
  have hl1 := hl.le hS1
  by_cases h2 : Rc.openR l t < 0
  · refine onE (decide_eq_true h2) ⟨rfl, ((p, l.length, c), 13), rfl, ?_⟩
    unfold Rc.answerR; rw [if_neg ht8, if_pos h2]; exact ⟨hl1, rfl⟩
  refine offE (decide_eq_false h2) ?_
  by_cases h6 : 1024 ≤ l.length
  · refine onE (decide_eq_true (by show ((l.length : Nat) : Int) ≥ 1024; omega)) ⟨rfl, ((p, l.length, c), 9), rfl, ?_⟩
    unfold Rc.answerR; rw [if_neg ht8, if_neg h2, if_pos h6]; exact ⟨hl1, rfl⟩
  refine offE (decide_eq_false (by show ¬ ((l.length : Nat) : Int) ≥ 1024; omega)) ?_
  obtain ⟨b, o, xn, hp, hr, hxn, hlt, hwn⟩ := num_at hl1 h2
  have fin : ∀ (S2 : Store) (q' : Hd), LIs S2 q' (l ++ [⟨1, t, xn, [], [], er, va⟩]) → LPost (Rc.answerR l t er va) S2 (q', 0) := fun S2 q' hq' => by
    unfold Rc.answerR; rw [if_neg ht8, if_neg h2, if_neg h6, ← hxn]; exact ⟨hq', rfl⟩
  have hev : ∀ S2, EIs S2 (1, t, xn, (bs [], none, 0, 0), er, va) ⟨1, t, xn, [], [], er, va⟩ := fun S2 => ⟨rfl, rfl, rfl, rfl, ns_nil _, rfl, rfl, Nat.zero_le _, Nat.zero_le _, ⟨in64_iff.2 ht, hwn, (fun a ha => by cases ha), in64_iff.2 her, in64_iff.2 hva⟩⟩
  refine ⟨or50_7, [], oF50_7, by kernel_rfl, ⟨_, rfl, rfl, rfl⟩, .inl ⟨_, _, _, open_spec S1 (p, l.length, c) l hl1 hll t, fun S2 _ hS2 _ => ?_⟩⟩
  have g1 : (0 : Int) ≤ Rc.openR l t := by omega
  have g2 : Rc.openR l t < ((l.length : Nat) : Int) := by omega
  refine ⟨g1, g2, b, o, hp, xn, trivial, Store.rd_le hS2 hr, ?_⟩
  refine ⟨⟨_, rfl, rfl, rfl⟩, .inl ⟨_, _, _, more_spec S2 (p, l.length, c) l (hl1.le hS2) hll (1, t, xn, (bs [], none, 0, 0), er, va) ⟨1, t, xn, [], [], er, va⟩ (hev S2), fun S3 q' hS3 hq' => ?_⟩⟩
  exact ⟨rfl, (q', 0), rfl, fin S3 q' hq'⟩
theorem refCommit_spec (S : Store) (q : Hd) (l : List Rc.Ev) (hl : LIs S q l) (hll : l.length ≤ 1000000) (t : Int) (ht : inI64 t) :
    Pure Tryz.prog 51 S [slV q, .int .i64 t] (A := Hd × Int) rLE (fun S' x => LPost (Rc.commitR l t) S' x) := by
  have hq := li_len hl
  obtain ⟨p, m, c⟩ := q
  have hq : m = l.length := hq
  subst hq
  refine pure_vc agrees Tryz.func51 rfl rfl (fun S S' q hle h => h.le hle) ?_
  by_cases h1 : t < 1
  · refine onE (decide_eq_true h1) (onT ⟨rfl, ((p, l.length, c), 3), rfl, ?_⟩)
    unfold Rc.commitR; rw [if_pos (.inl h1)]; exact ⟨hl, rfl⟩
  by_cases h8 : t > 8
  · refine offE (decide_eq_false h1) (onE (decide_eq_true h8) ⟨rfl, ((p, l.length, c), 3), rfl, ?_⟩)
    unfold Rc.commitR; rw [if_pos (.inr h8)]; exact ⟨hl, rfl⟩
  have ht8 : ¬ (t < 1 ∨ 8 < t) := by omega
  refine offE (decide_eq_false h1) (offE (decide_eq_false h8) ⟨⟨_, rfl, rfl, rfl⟩, .inl ⟨_, _, _, open_spec S (p, l.length, c) l hl hll t, fun S1 _ hS1 _ => ?_⟩⟩)
  have hl1 := hl.le hS1
  by_cases h2 : Rc.openR l t < 0
  · refine onE (decide_eq_true h2) ⟨rfl, ((p, l.length, c), 13), rfl, ?_⟩
    unfold Rc.commitR; rw [if_neg ht8, if_pos h2]; exact ⟨hl1, rfl⟩
  refine offE (decide_eq_false h2) ?_
  obtain ⟨b0, o0, xn, hp0, hr0, hxn, hlt, hwn⟩ := num_at hl1 h2
  obtain ⟨at0, hat⟩ : ∃ a : Nat, Rc.openR l t = (a : Int) := ⟨(Rc.openR l t).toNat, by omega⟩
  have htw : ∀ (j : Nat) (e : Rc.Ev), at0 ≤ j → l[j]? = some e → e.k = 2 → e.t = t → Rc.twiceR l t (Rc.openR l t).toNat = true := by
    intro j e hj he h1 h2
    rw [hat, Int.toNat_natCast]
    unfold Rc.twiceR
    refine List.any_eq_true.2 ⟨e, List.mem_of_getElem? (i := j - at0) (by rw [List.getElem?_drop, show at0 + (j - at0) = j by omega]; exact he), decide_eq_true ⟨h1, h2⟩⟩
  rw [hat] at hlt
  have hlt : at0 < l.length := by rwa [Int.toNat_natCast] at hlt
  refine ⟨[], [], Nat, [7] ++ List.range' 22 22, fun i => [(7, rI i)], fun _ => [], fun _ => S1, fun i => at0 ≤ i ∧ i ≤ l.length ∧ ∀ (j : Nat) (e : Rc.Ev), at0 ≤ j → j < i → l[j]? = some e → ¬ (e.k = 2 ∧ e.t = t), fun i => l.length - i, ?_⟩
  refine And.intro (Exists.intro at0 (And.intro (And.intro (And.intro ?_ rfl) (And.intro rfl (Store.le_refl _))) ⟨Nat.le_refl _, Nat.le_of_lt hlt, fun j e h3 h4 => absurd h4 (by omega)⟩)) ?_
  · rw [hat]
    repeat' first | exact trivial | exact rfl | refine And.intro ?_ ?_
  rintro i ⟨hi0, hi, hall⟩
  have hi0 : at0 ≤ i := hi0
  have hi : i ≤ l.length := hi
  have i0 : (0 : Int) ≤ ((i : Nat) : Int) := Int.natCast_nonneg _
  refine And.intro (fun h => ?_) (fun h => ?_)
  · have hil : i < l.length := by
      have : ((i : Nat) : Int) < ((l.length : Nat) : Int) := of_decide_eq_true h
      omega
    obtain ⟨x, e, b, o, he, hx, hp, hrd⟩ := ev_at hl1 hil
    have hp : p = some ⟨b, o, none⟩ := hp
    have g2 : ((i : Nat) : Int) < ((l.length : Nat) : Int) := by omega
    have wi : IntKind.i64.wrap (((i : Nat) : Int) + 1) = ((i + 1 : Nat) : Int) := wrap_i64 (by omega) (by omega)
    obtain ⟨xk, xt, xn', xr⟩ := x
    have hk : xk = e.k := hx.k
    have htt : xt = e.t := hx.t
    have r0 : S1.rd b (o + i * 7 + 0) [.int .i64 xk] := rd_field hrd rfl
    have r1 : S1.rd b (o + i * 7 + 1) [.int .i64 xt] := rd_field hrd rfl
    have next : ¬ (e.k = 2 ∧ e.t = t) → ∀ (j : Nat) (e' : Rc.Ev), at0 ≤ j → j < i + 1 → l[j]? = some e' → ¬ (e'.k = 2 ∧ e'.t = t) := fun hno j e' hj hj2 he' => by
      by_cases hji : j = i
      · subst hji
        rw [he] at he'
        obtain rfl := Option.some.inj he'
        exact hno
      · exact hall j e' hj (by omega) he'
    by_cases h3 : e.k = 2
    · by_cases h4 : e.t = t
      · refine ⟨i0, g2, b, o, hp, xk, trivial, r0, onE (beq_iff_eq.2 (hk.trans h3)) ⟨i0, g2, b, o, hp, xt, trivial, r1, onE (beq_iff_eq.2 (htt.trans h4)) ⟨rfl, ((p, l.length, c), 11), rfl, ?_⟩⟩⟩
        unfold Rc.commitR; rw [if_neg ht8, if_neg h2, if_pos (htw i e hi0 he h3 h4)]; exact ⟨hl1, rfl⟩
      · refine ⟨i0, g2, b, o, hp, xk, trivial, r0, onE (beq_iff_eq.2 (hk.trans h3)) ⟨i0, g2, b, o, hp, xt, trivial, r1, offE (beq_eq_false_iff_ne.2 (show ¬ xt = t from fun q => h4 (htt.symm.trans q))) ⟨((i + 1 : Nat) : Int), wi, i + 1, ⟨⟨?_, rfl⟩, rfl, Store.le_refl _⟩, ⟨Nat.le_succ_of_le hi0, hil, next fun q => h4 q.2⟩, by show l.length - (i + 1) < l.length - i; omega⟩⟩⟩
        repeat' first | exact trivial | exact rfl | refine And.intro ?_ ?_
    · refine ⟨i0, g2, b, o, hp, xk, trivial, r0, offE (beq_eq_false_iff_ne.2 (show ¬ xk = 2 from fun q => h3 (hk.symm.trans q))) (onF ⟨((i + 1 : Nat) : Int), wi, i + 1, ⟨⟨?_, rfl⟩, rfl, Store.le_refl _⟩, ⟨Nat.le_succ_of_le hi0, hil, next fun q => h3 q.1⟩, by show l.length - (i + 1) < l.length - i; omega⟩)⟩
      repeat' first | exact trivial | exact rfl | refine And.intro ?_ ?_
  · have hil : i = l.length := by
      have : ¬ ((i : Nat) : Int) < ((l.length : Nat) : Int) := of_decide_eq_false h
      omega
    subst hil
    have hno : ¬ Rc.twiceR l t (Rc.openR l t).toNat = true := by
      rw [hat, Int.toNat_natCast]
      intro q
      unfold Rc.twiceR at q
      obtain ⟨e, he, hd⟩ := List.any_eq_true.1 q
      obtain ⟨j, hj⟩ := List.getElem?_of_mem he
      rw [List.getElem?_drop] at hj
      exact hall (at0 + j) e (Nat.le_add_right _ _) (Rc.get_lt hj) hj (of_decide_eq_true hd)
    by_cases h6 : 1024 ≤ l.length
    · refine onE (decide_eq_true (by show ((l.length : Nat) : Int) ≥ 1024; omega)) ⟨rfl, ((p, l.length, c), 9), rfl, ?_⟩
      unfold Rc.commitR; rw [if_neg ht8, if_neg h2, if_neg hno, if_pos h6]; exact ⟨hl1, rfl⟩
    refine offE (decide_eq_false (by show ¬ ((l.length : Nat) : Int) ≥ 1024; omega)) ⟨by show 0 ≤ Rc.openR l t; omega, by show Rc.openR l t < ((l.length : Nat) : Int); omega, b0, o0, hp0, xn, trivial, hr0, ⟨_, rfl, rfl, rfl⟩, .inl ⟨_, _, _, more_spec S1 (p, l.length, c) l hl1 hll (2, t, xn, (bs [], none, 0, 0), 0, 0) ⟨2, t, xn, [], [], 0, 0⟩ ⟨rfl, rfl, rfl, rfl, ns_nil _, rfl, rfl, Nat.zero_le _, Nat.zero_le _, ⟨in64_iff.2 ht, hwn, (fun a ha => by cases ha), rfl, rfl⟩⟩, fun S3 q' hS3 hq' => ⟨rfl, (q', 0), rfl, ?_⟩⟩⟩
    unfold Rc.commitR; rw [if_neg ht8, if_neg h2, if_neg hno, if_neg h6, ← hxn]; exact ⟨hq', rfl⟩
end Go.Proofs.YtpeehenohdlfdaaGreatDoor
