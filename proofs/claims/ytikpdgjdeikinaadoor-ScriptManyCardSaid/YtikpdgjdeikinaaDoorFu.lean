/- law63: the law Many. -/
import Derived.Test.YtikpdgjdeikinaaDoorFs
import Derived.Test.YtikpdgjdeikinaaDoorFo
namespace Go.Proofs.YtikpdgjdeikinaaDoor
open Go Go.Vc Go.Sort
set_option maxRecDepth 100000
set_option maxHeartbeats 8000000

def cR : Sc.Cmd := (0, 8, [], [])
def aW : Sc.Bs := List.replicate 255 97
def cA : Sc.Cmd := (0, 1, [], [aW])
def hdS : Sc.Bs := [59, 32, 97, 32, 104, 101, 97, 100, 10, 10]
def x0 : Cx := (0, 0, (none, 0, 0), (none, 0, 0))
def xR : Cx := (0, 8, (none, 0, 0), (none, 0, 0))
def xA (h : Hd) : Cx := (0, 1, (none, 0, 0), h)
theorem text_rep (x : Sc.Cmd) (n : Nat) : (Sc.textOf (List.replicate n x)).length = n * (Sc.lineR x).length := by
  induction n with
  | zero => simp [Sc.textOf]
  | succ n ih =>
    have e : Sc.textOf (List.replicate (n + 1) x) = Sc.lineR x ++ Sc.textOf (List.replicate n x) := by simp [Sc.textOf, List.replicate_succ]
    rw [e, List.length_append, ih, Nat.add_mul, Nat.one_mul, Nat.add_comm]
theorem lineA : Sc.lineR cR = [114, 101, 99, 111, 118, 101, 114, 10] := by first | decide +kernel | kernel_rfl
theorem lenA : (Sc.lineR cA).length = 261 := by first | decide +kernel | kernel_rfl
theorem checkA : Sc.checkR cR = 0 := by first | decide +kernel | kernel_rfl
theorem checkB : Sc.checkR cA = 0 := Sc.check_text (by first | decide +kernel | kernel_rfl)
theorem rep_snoc {α : Type} (x : α) (n : Nat) : List.replicate (n + 1) x = List.replicate n x ++ [x] := List.replicate_succ'
/-- The first are a's, the others b. -/
def mixL {α : Type} (a : List α) (b : α) (m : Nat) : List α := a ++ List.replicate (m - a.length) b
theorem mixL_len {α : Type} (a : List α) (b : α) {m : Nat} (h : a.length ≤ m) : (mixL a b m).length = m := by simp [mixL]; omega
theorem mixL_get {α : Type} (a : List α) (b : α) {m : Nat} (h : a.length < m) : (mixL a b m)[a.length]? = some b := by
  unfold mixL
  rw [List.getElem?_append_right (Nat.le_refl _), Nat.sub_self, List.getElem?_replicate, if_pos (by omega)]
theorem mixL_set {α : Type} (a : List α) (b x : α) {m : Nat} (h : a.length < m) : (mixL a b m).set a.length x = mixL (a ++ [x]) b m := by
  unfold mixL
  obtain ⟨k, hk⟩ : ∃ k, m - a.length = k + 1 := ⟨m - a.length - 1, by omega⟩
  have hk2 : m - (a ++ [x]).length = k := by rw [List.length_append]; show m - (a.length + 1) = k; omega
  rw [hk, hk2, List.replicate_succ (n := k), List.set_append_right _ _ (Nat.le_refl _), Nat.sub_self, List.append_assoc]
  rfl
theorem mixL_end {α : Type} (a : List α) (b : α) : mixL a b a.length = a := by simp [mixL]
theorem push_size (l : List Int) : ∀ r : ByteArray, (l.foldl (fun r n => r.push (UInt8.ofNat n.toNat)) r).size = r.size + l.length := by
  induction l with
  | nil => intro r; rfl
  | cons a l ih => intro r; rw [List.foldl_cons, ih, ByteArray.size_push, List.length_cons]; omega
theorem bytesOf_size (l : List Int) : (bytesOf l).size = l.length := by
  rw [bytesOf, push_size]
  simp
theorem parse_long (S : Store) (x : ByteArray) (hx : x.size > 65536) : Pure Tryd.prog 9 S [.string x] rLE (fun _ q => q.2 = (0, 7)) := by
  refine pure_vc agrees Tryd.func9 rfl rfl (fun S S' q hle h => h) ?_
  exact onE (decide_eq_true (by omega)) ⟨rfl, ((none, 0, 0), 0, 7), rfl, rfl⟩
theorem cis_R (S : Store) : CIs S xR cR := ⟨rfl, rfl, ns_nil S, ws_nil S⟩
theorem map_rep {α β : Type} (f : α → β) (n : Nat) (x : α) : (List.replicate n x).map f = List.replicate n (f x) := List.map_replicate
theorem lis_R {S : Store} {p : Option Addr} {m c : Nat} {k : Nat} (hk : k = m) (hm : m ≤ c) (hr : RowRd S p shC (List.replicate m xR)) : LIs S (p, k, c) (List.replicate m cR) := by
  subst hk
  refine ⟨List.replicate k (xR, cR), map_rep _ _ _, (List.length_replicate ..).symm, hm, ?_, fun z hz => ?_⟩
  · rw [map_rep]; exact hr
  · rw [List.eq_of_mem_replicate hz]; exact cis_R S
theorem lis_M {S : Store} {p : Option Addr} {m c k : Nat} {hs : List Hd} (hl : hs.length ≤ m) (hk : k = m) (hm : m ≤ c) (hw : ∀ h ∈ hs, WsIs S h [aW]) (hr : RowRd S p shC (mixL (hs.map xA) xR m)) :
    LIs S (p, k, c) (List.replicate hs.length cA ++ List.replicate (m - hs.length) cR) := by
  subst hk
  refine ⟨hs.map (fun h => (xA h, cA)) ++ List.replicate (k - hs.length) (xR, cR), ?_, ?_, hm, ?_, fun z hz => ?_⟩
  · rw [List.map_append, map_rep, List.map_map]
    congr 1
    exact List.map_const'
  · show k = (hs.map (fun h => (xA h, cA)) ++ List.replicate (k - hs.length) (xR, cR)).length
    rw [List.length_append, List.length_map, List.length_replicate]; omega
  · rw [List.map_append, map_rep, List.map_map]
    unfold mixL at hr
    rw [List.length_map] at hr
    exact hr
  · rcases List.mem_append.1 hz with h | h
    · obtain ⟨q, hq, rfl⟩ := List.mem_map.1 h
      exact ⟨rfl, rfl, ns_nil S, hw q hq⟩
    · rw [List.eq_of_mem_replicate h]; exact cis_R S
theorem all_rep {x : Sc.Cmd} (h : Sc.checkR x = 0) (n : Nat) : ∀ p ∈ List.replicate n x, Sc.checkR p = 0 := fun p hp => by rw [List.eq_of_mem_replicate hp]; exact h
theorem many_parse (m : Nat) (hm : m ≤ 1004) : Sc.parseR (hdS ++ Sc.textOf (List.replicate m cR)) = if m ≤ 1000 then (Sc.renum 3 (List.replicate m cR), 0, 0) else ([], 1003, 15) := by
  have hl : (Sc.textOf (List.replicate m cR)).length = m * 8 := by rw [text_rep, lineA]; rfl
  unfold Sc.parseR
  rw [if_neg (by rw [List.length_append, hl]; show ¬ 10 + m * 8 > 65536; omega)]
  have e : hdS ++ Sc.textOf (List.replicate m cR) = [59, 32, 97, 32, 104, 101, 97, 100] ++ 10 :: ([] ++ 10 :: Sc.textOf (List.replicate m cR)) := rfl
  rw [e, Txt.pieces_hit _ (by decide), Txt.pieces_hit _ (by decide), Sc.pieces_text _ (all_rep checkA m)]
  rw [Sc.parseP, if_pos (show Sc.skipR [59, 32, 97, 32, 104, 101, 97, 100] = true from rfl), Sc.parseP, if_pos (show Sc.skipR [] = true from rfl)]
  have := Sc.parse_text (List.replicate m cR) [] 3 (all_rep checkA m) (fun c hc k hk => by rw [List.eq_of_mem_replicate hc] at hk; cases hk) (Nat.zero_le _)
  show Sc.parseP 3 [] _ = _
  rw [this, List.length_replicate]
  by_cases h : m ≤ 1000
  · rw [if_pos (by simpa using h), if_pos h, List.nil_append]
  · rw [if_neg (by simpa using h), if_neg h]; rfl
theorem many_long {m : Nat} (h0 : 300 ≤ m) (hm : m ≤ 1000) : Sc.printR (List.replicate 300 cA ++ List.replicate (m - 300) cR) = ([], 7) := by
  have hb : Sc.badOf (List.replicate 300 cA ++ List.replicate (m - 300) cR) = 0 := Sc.bad_all fun c hc => by
    rcases List.mem_append.1 hc with h | h
    · exact all_rep checkB _ _ h
    · exact all_rep checkA _ _ h
  unfold Sc.printR
  rw [if_neg (by rw [List.length_append, List.length_replicate, List.length_replicate]; omega), if_neg (by rw [hb]; simp), if_pos (by rw [Sc.text_app, List.length_append, text_rep, lenA]; omega)]
theorem law_many (S : Store) (hL : Lw S) (x : Int) (hx : 0 ≤ x ∧ x ≤ 255) : Pure Tryd.prog 7 S [.int .u8 x] rB (fun _ k => k = true) := by
  refine pure_vc agrees Tryd.func7 rfl rfl (fun S S' q hle h => h) ?_
  have hmod : x.tmod 8 = x % 8 := Int.tmod_eq_emod_of_nonneg hx.1
  obtain ⟨m, hm⟩ := Int.eq_ofNat_of_zero_le (show 0 ≤ 996 + x % 8 by omega)
  refine ⟨by decide, x % 8, hmod, x % 8, wrap_i64 (by omega) (by omega), 996 + x % 8, wrap_i64 (by omega) (by omega), ?_⟩
  have hm1 : 996 ≤ m ∧ m ≤ 1003 := by omega
  rw [hm]
  refine ⟨by omega, Int.le_refl _, by show (64 : Int) * (m : Int) ≤ _; omega, by omega, ?_⟩
  refine ⟨[], [], Nat, [6] ++ List.range' 28 9, fun i => [(27, rI i), (5, rS (bs (hdS ++ Sc.textOf (List.replicate i cR))))], fun i => [.row shC 38 (mixL (List.replicate i xR) x0 m)], fun _ => S, fun i => i ≤ m, fun i => m - i, ?_⟩
  refine And.intro (Exists.intro 0 (And.intro (And.intro (And.intro ?_ rfl) (And.intro (by show [Res.row shC 38 (List.replicate m x0)] = [Res.row shC 38 (mixL (List.replicate 0 xR) x0 m)]; rfl) (Store.le_refl _))) (Nat.zero_le _))) ?_
  · repeat' first | exact trivial | exact rfl | refine And.intro ?_ ?_
  rintro i hi
  have hi : i ≤ m := hi
  have i0 : (0 : Int) ≤ ((i : Nat) : Int) := Int.natCast_nonneg _
  have hri : (List.replicate i xR).length = i := List.length_replicate ..
  refine And.intro (fun h => ?_) (fun h => ?_)
  · have hil : i < m := by
      have : ((i : Nat) : Int) < (((List.replicate m x0).length : Nat) : Int) := of_decide_eq_true h
      rw [List.length_replicate] at this; omega
    have hmu : m - (i + 1) < m - i := by omega
    have htl : (hdS ++ Sc.textOf (List.replicate i cR)).length = 10 + i * 8 := by rw [List.length_append, text_rep, lineA]; rfl
    have hget : (mixL (List.replicate i xR) x0 m)[i]? = some x0 := by
      have := mixL_get (List.replicate i xR) x0 (m := m) (by omega)
      rw [hri] at this; exact this
    have hset : (mixL (List.replicate i xR) x0 m).set i xR = mixL (List.replicate (i + 1) xR) x0 m := by
      have := mixL_set (List.replicate i xR) x0 xR (m := m) (by omega)
      rw [hri, ← rep_snoc] at this; exact this
    refine ⟨i0, by show ((i : Nat) : Int) < ((mixL (List.replicate i xR) x0 m).length : Int); rw [mixL_len _ _ (by omega)]; omega, x0, xR, hget, ⟨trivial, trivial, trivial, trivial⟩, rfl, Nat.le_refl 4, ?_⟩
    refine ⟨by rw [bs_size, htl]; show 10 + i * 8 + 8 ≤ _; omega, ((i + 1 : Nat) : Int), wrap_i64 (by omega) (by omega), i + 1, ⟨⟨?_, rfl⟩, ?_, Store.le_refl _⟩, hil, hmu⟩
    · have eS : rS (bs (hdS ++ Sc.textOf (List.replicate (i + 1) cR))) = rS (bs (hdS ++ Sc.textOf (List.replicate i cR)) ++ bs [114, 101, 99, 111, 118, 101, 114, 10]) := by
        rw [rep_snoc, Sc.text_snoc, lineA, bs_app, List.append_assoc]
      repeat' first | exact trivial | exact rfl | exact eS.symm | refine And.intro ?_ ?_
    · show [Res.row shC 38 ((mixL (List.replicate i xR) x0 m).set i xR)] = [Res.row shC 38 (mixL (List.replicate (i + 1) xR) x0 m)]
      rw [hset]
  · have hil : i = m := by
      have : ¬ ((i : Nat) : Int) < (((List.replicate m x0).length : Nat) : Int) := of_decide_eq_false h
      rw [List.length_replicate] at this; omega
    subst hil
    clear h hi hm hmod hx
    have hlA : (hdS ++ Sc.textOf (List.replicate i cR)).length = 10 + i * 8 := by rw [List.length_append, text_rep, lineA]; rfl
    have hmix : mixL (List.replicate i xR) x0 i = List.replicate i xR := by
      have := mixL_end (List.replicate i xR) x0
      rw [hri] at this; exact this
    have hpp := many_parse i (by omega)
    have hps := parse_spec' S hL (hdS ++ Sc.textOf (List.replicate i cR)) (by omega)
    rw [hpp] at hps
    have hnw : ∀ c ∈ List.replicate i cR, c.2.2.1.length ≤ 1000000000 := fun c hc => by rw [List.eq_of_mem_replicate hc]; decide
    refine ⟨⟨_, rfl, rfl, rfl⟩, .inr (.inr (.inl fun p1 c1 S1 hS1 hr1 hp1 => ⟨_, _, _, print_spec S1 (hL.le hS1) (p1, _, c1) _ (lis_R ((mixL_len _ _ (by omega)).trans rfl) (by have := pform_le hp1.1; rw [mixL_len _ _ (by omega)] at this; exact this) (hmix ▸ hr1)) (by rw [List.length_replicate]; omega) hnw, fun S2 _ hS2 _ => ?_⟩))⟩
    refine ⟨⟨_, rfl, rfl, rfl⟩, .inl ⟨_, _, _, hps, fun S3 q2 hS3 hq2 => ?_⟩⟩
    obtain ⟨⟨p2, n2, c2⟩, l2, e2⟩ := q2
    obtain ⟨h2, hq⟩ := hq2
    have hL3 := hL.le hS3
    by_cases hbig : i > 1000
    · rw [if_neg (by omega)] at h2 hq
      have hpr : Sc.printR (List.replicate i cR) = ([], 15) := by unfold Sc.printR; rw [if_pos (by rw [List.length_replicate]; exact hbig)]
      have h2 : l2 = 1003 ∧ e2 = 15 := ⟨congrArg Prod.fst h2, congrArg Prod.snd h2⟩
      obtain ⟨rfl, rfl⟩ := h2
      obtain ⟨L0, hL0, hlen0, -⟩ := hq
      have hn2 : n2 = 0 := by have : n2 = L0.length := hlen0; rw [this, List.map_eq_nil_iff.1 hL0]; rfl
      subst hn2
      exact onE (decide_eq_true (by omega)) (onE (by rw [hpr]; rfl) (onE rfl (onE rfl (onE rfl ⟨⟨_, rfl, rfl, rfl⟩, .inl ⟨_, _, _, awake_spec S3 hL3, fun S4 _ hS4 _ => ⟨rfl, true, rfl, rfl⟩⟩⟩))))
    rw [if_pos (by omega)] at h2 hq
    have hpr : (Sc.printR (List.replicate i cR)).2 = 0 := by
      have ht : (Sc.textOf (List.replicate i cR)).length = i * 8 := by rw [text_rep, lineA]; rfl
      unfold Sc.printR
      rw [if_neg (by rw [List.length_replicate]; omega), if_neg (by rw [Sc.bad_all (all_rep checkA i)]; simp), if_neg (by omega)]
    have h2 : l2 = 0 ∧ e2 = 0 := ⟨congrArg Prod.fst h2, congrArg Prod.snd h2⟩
    obtain ⟨rfl, rfl⟩ := h2
    obtain ⟨L0, hL0, hlen0, -⟩ := hq
    have hn2 : n2 = i := by
      have h1 : n2 = L0.length := hlen0
      have := congrArg List.length hL0
      rw [List.length_map, Sc.renum_len, List.length_replicate] at this
      omega
    subst hn2
    refine offE (decide_eq_false (by omega)) ?_
    refine ⟨by decide, by decide, by decide, by decide, ?_⟩
    refine ⟨[], [], Nat, List.range' 71 4, fun j => [(70, rI j), (12, rS (bs (List.replicate j 97)))], fun _ => [.row shC 38 (mixL (List.replicate n2 xR) x0 n2), .row (.int .u8) 5 []], fun _ => S3, fun j => j ≤ 255, fun j => 255 - j, ?_⟩
    refine And.intro (Exists.intro 0 (And.intro (And.intro (And.intro ?_ rfl) (And.intro rfl (Store.le_refl _))) (Nat.zero_le _))) ?_
    · repeat' first | exact trivial | exact rfl | refine And.intro ?_ ?_
    rintro j hj
    have hj : j ≤ 255 := hj
    have j0 : (0 : Int) ≤ ((j : Nat) : Int) := Int.natCast_nonneg _
    refine And.intro (fun h => ?_) (fun h => ?_)
    · have hjl : j < 255 := by
        have : ((j : Nat) : Int) < 255 := of_decide_eq_true h
        omega
      refine ⟨by rw [bs_size, List.length_replicate]; show j + 1 ≤ _; omega, ((j + 1 : Nat) : Int), wrap_i64 (by omega) (by omega), j + 1, ⟨⟨?_, rfl⟩, rfl, Store.le_refl _⟩, hjl, by show 255 - (j + 1) < 255 - j; omega⟩
      have eS : rS (bs (List.replicate (j + 1) 97)) = rS (bs (List.replicate j 97) ++ bs [97]) := by rw [rep_snoc, bs_app]
      repeat' first | exact trivial | exact rfl | exact eS.symm | refine And.intro ?_ ?_
    · have hjl : j = 255 := by
        have : ¬ ((j : Nat) : Int) < 255 := of_decide_eq_false h
        omega
      subst hjl
      clear h hj
      refine ⟨[], [], List Hd × Store, [13] ++ List.range' 76 9, fun a => [(75, rI a.1.length)], fun a => [.row shC 38 (mixL (a.1.map xA) xR n2), .row (.int .u8) 5 []], fun a => a.2, fun a => a.1.length ≤ 300 ∧ S3.le a.2 ∧ ∀ h ∈ a.1, WsIs a.2 h [aW], fun a => 300 - a.1.length, ?_⟩
      refine And.intro (Exists.intro ([], S3) (And.intro (And.intro (And.intro ?_ rfl) (And.intro (by show [Res.row shC 38 (mixL (List.replicate n2 xR) x0 n2), Res.row (.int .u8) 5 []] = [Res.row shC 38 (mixL [] xR n2), Res.row (.int .u8) 5 []]; rw [hmix]; rfl) (Store.le_refl _))) ⟨Nat.zero_le _, Store.le_refl _, fun h hh => by cases hh⟩)) ?_
      · repeat' first | exact trivial | exact rfl | refine And.intro ?_ ?_
      rintro ⟨hs, Sa⟩ ⟨hk, hSa, hw⟩
      have hk : hs.length ≤ 300 := hk
      have hSa : S3.le Sa := hSa
      have hw : ∀ h ∈ hs, WsIs Sa h [aW] := hw
      have k0 : (0 : Int) ≤ ((hs.length : Nat) : Int) := Int.natCast_nonneg _
      have hml : (hs.map xA).length = hs.length := List.length_map _
      refine And.intro (fun h => ?_) (fun h => ?_)
      · have hkl : hs.length < 300 := by
          have : ((hs.length : Nat) : Int) < 300 := of_decide_eq_true h
          omega
        have hget : (mixL (hs.map xA) xR n2)[hs.length]? = some xR := by
          have := mixL_get (hs.map xA) xR (m := n2) (by omega)
          rw [hml] at this; exact this
        have hset : ∀ q : Hd, (mixL (hs.map xA) xR n2).set hs.length (xA q) = mixL ((hs ++ [q]).map xA) xR n2 := fun q => by
          have := mixL_set (hs.map xA) xR (xA q) (m := n2) (by omega)
          rw [hml] at this
          rw [List.map_append]; exact this
        refine ⟨k0, by show ((hs.length : Nat) : Int) < ((mixL (hs.map xA) xR n2).length : Int); rw [mixL_len _ _ (by omega)]; omega, fun p4 c4 S4 hS4 hr4 hp4 => ?_⟩
        have hc4 : 1 ≤ c4 := pform_le hp4.1
        refine ⟨xR, xA (p4, 1, c4), hget, ⟨trivial, trivial, trivial, trivial⟩, rfl, Nat.le_refl 4, ?_⟩
        refine ⟨((hs.length + 1 : Nat) : Int), wrap_i64 (by omega) (by omega), (hs ++ [(p4, 1, c4)], S4), ⟨⟨?_, rfl⟩, ?_, Store.le_refl _⟩, ⟨?_, Store.le_trans hSa hS4, ?_⟩, ?_⟩
        · have e : rI (hs ++ [(p4, 1, c4)]).length = rI ((hs.length + 1 : Nat) : Int) := by rw [List.length_append]; rfl
          repeat' first | exact trivial | exact rfl | exact e.symm | refine And.intro ?_ ?_
        · show [Res.row shC 38 ((mixL (hs.map xA) xR n2).set hs.length (xA (p4, 1, c4))), Res.row (.int .u8) 5 []] = [Res.row shC 38 (mixL ((hs ++ [(p4, 1, c4)]).map xA) xR n2), Res.row (.int .u8) 5 []]
          rw [hset]
        · show (hs ++ [(p4, 1, c4)]).length ≤ 300
          rw [List.length_append]; show hs.length + 1 ≤ 300; omega
        · intro y hy
          rcases List.mem_append.1 hy with hy | hy
          · exact (hw y hy).le hS4
          · rw [List.mem_singleton.1 hy]
            exact ws_one hc4 hr4 (by show aW.length ≤ 1000000000; unfold aW; rw [List.length_replicate]; omega)
        · show 300 - (hs ++ [(p4, 1, c4)]).length < 300 - hs.length
          rw [List.length_append]; show 300 - (hs.length + 1) < 300 - hs.length; omega
      · have hkl : hs.length = 300 := by
          have : ¬ ((hs.length : Nat) : Int) < 300 := of_decide_eq_false h
          omega
        clear h
        have hmm : (mixL (hs.map xA) xR n2).length = n2 := mixL_len _ _ (by rw [hml]; omega)
        have hpl := many_long (m := n2) (by omega) (by omega)
        rw [← hkl] at hpl
        have hnw2 : ∀ c ∈ List.replicate hs.length cA ++ List.replicate (n2 - hs.length) cR, c.2.2.1.length ≤ 1000000000 := fun c hc => by
          rcases List.mem_append.1 hc with h | h <;> rw [List.eq_of_mem_replicate h] <;> decide
        refine ⟨⟨_, rfl, rfl, rfl⟩, .inr (.inr (.inl fun p5 c5 S5 hS5 hr5 hp5 => ⟨_, _, _, print_spec S5 ((hL3.le hSa).le hS5) (p5, _, c5) _ (lis_M (m := n2) (by omega) hmm (by have := pform_le hp5.1; rw [hmm] at this; exact this) (fun h hh => (hw h hh).le hS5) hr5) (by rw [List.length_append, List.length_replicate, List.length_replicate]; omega) hnw2, fun S6 _ hS6 _ => ?_⟩))⟩
        refine ⟨by decide, by decide, by decide, by decide, ?_⟩
        refine ⟨⟨_, rfl, rfl, rfl⟩, .inl ⟨_, _, _, parse_long Sa _ ?_, fun S7 q6 hS7 hq6 => ?_⟩⟩
        · have e := bytesOf_size (List.replicate (Int.toNat 65537) (0 : Int))
          rw [List.length_replicate] at e
          exact Nat.lt_of_lt_of_eq (show 65536 < Int.toNat 65537 by decide) e.symm
        obtain ⟨⟨p6, n6, c6⟩, e6⟩ := q6
        obtain rfl : e6 = (0, 7) := hq6
        refine onE (by rw [hpr]; rfl) (onE rfl (onE (beq_iff_eq.2 rfl) (onE (by rw [hpl]; rfl) (onE rfl (onE rfl ⟨⟨_, rfl, rfl, rfl⟩, .inl ⟨_, _, _, awake_spec S7 ((hL3.le hSa).le hS7), fun S8 _ hS8 _ => ⟨rfl, true, rfl, rfl⟩⟩⟩)))))
end Go.Proofs.YtikpdgjdeikinaaDoor
