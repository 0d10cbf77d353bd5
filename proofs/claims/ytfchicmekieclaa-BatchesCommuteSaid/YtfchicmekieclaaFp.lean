/- law54: the laws: Commute. -/
import Derived.Test.YtfchicmekieclaaFo
namespace Go.Proofs.Ytfchicmekieclaa
open Go Go.Vc
set_option maxRecDepth 100000

def orCom1 : Vc.Ord := .op 1 (.op 3 (.op 5 (.op 7 (.op 2 (.op 6 (.op 0 (.alt 4 (.op 8 (.op 9 (.op 10 .done))) (.alt 8 (.op 4 (.op 9 (.op 10 .done))) .stop))))))))
def orCom2 : Vc.Ord := .op 0 (.op 5 (.op 1 (.op 2 (.op 6 (.op 7 (.alt 3 (.alt 4 (.op 8 (.op 9 (.op 10 (.op 11 .done)))) (.alt 8 (.op 4 (.op 9 (.op 10 (.op 11 .done)))) .stop)) (.alt 8 (.op 3 (.op 4 (.op 9 (.op 10 (.op 11 .done))))) .stop)))))))

theorem fin_put {m : M} (h : FIn (get m)) {k v : Int} (hv : inI64 v) : FIn (get (put m k v)) := by
  intro x y hy
  rw [get_put] at hy
  split at hy
  · simp only [Option.some.injEq] at hy; rw [← hy]; exact hv
  · exact h x y hy
theorem fin_nil : FIn (get []) := by intro x y hy; cases hy

/-- The two orders, at one value. -/
def Eqv (a b : O) (n k : Int) : Prop := eff b.1 (eff a.1 (IntKind.i64.wrap (n - k)) a.2.2) b.2.2 = eff a.1 (eff b.1 (IntKind.i64.wrap (n - k)) b.2.2) a.2.2

theorem eqv_of {a b : O} {w : Int} (hk : a.2.1 = b.2.1) (hla : live a.1 = true) (hlb : live b.1 = true) (h : ∀ k, app (get [(a.2.1, w)]) [a, b] k = app (get [(a.2.1, w)]) [b, a] k) : eff b.1 (eff a.1 w a.2.2) b.2.2 = eff a.1 (eff b.1 w b.2.2) a.2.2 := by
  have h1 := h a.2.1
  have hg : get [(a.2.1, w)] a.2.1 = some w := by
    have := get_put [] a.2.1 w a.2.1
    rw [if_pos rfl] at this
    exact this
  have hg' : get [(a.2.1, w)] b.2.1 = some w := by rw [← hk]; exact hg
  simp only [app, List.foldl_cons, List.foldl_nil, app1, hla, hlb, cond_true, hk, if_true, Option.getD_some] at h1
  rw [hk] at hg
  simp only [hg, Option.getD_some, Option.some.injEq] at h1
  exact h1

set_option maxHeartbeats 16000000 in
theorem law_commute (S : Store) (a b : O) (v : Int) (ha : opIn a) (hb : opIn b) (hv : inI64 v) : Pure Try.prog 5 S [shO.val a, shO.val b, .int .i64 v] rB (fun _ r => r = true) := by
  refine pure_vc agrees Try.func5 rfl rfl (fun _ _ _ _ h => h) ?_
  refine ⟨orCom1, [2], [], by kernel_rfl, ⟨a.2.1, v, rfl, rfl, trivial, b.2.1, v, rfl, rfl, trivial, ?_⟩, ⟨b.2.1, v, rfl, rfl, trivial, a.2.1, v, rfl, rfl, trivial, ?_⟩, trivial⟩
  all_goals
    refine ⟨orCom2, [2, 3, 4], [], by kernel_rfl, ⟨?_, ?_, trivial⟩, ?_, trivial⟩
    all_goals
      refine ⟨⟨_, rfl, rfl, rfl⟩, .inl fun bb S1 h1 hm1 p c S2 h2 hr2 => ⟨_, _, _, apply_spec S2 (some bb) _ (hm1.le h2) (once_mset rfl (once_mset rfl once_nil _ _) _ _) (p, 2, c) [a, b] rfl hr2 (by simp), fun S3 x hS3 ⟨es, hx1, hx2, hx3⟩ => ?_⟩⟩
      refine ⟨⟨_, rfl, rfl, rfl⟩, .inl fun p' c' S4 h4 hr4 => ⟨_, _, _, apply_spec S4 (some bb) _ (((hm1.le h2).le hS3).le h4) (once_mset rfl (once_mset rfl once_nil _ _) _ _) (p', 2, c') [b, a] rfl hr4 (by simp), fun S5 y hS5 ⟨fs, hy1, hy2, hy3⟩ => ?_⟩⟩
      refine ⟨or5_3, [], oF5_3, by kernel_rfl, ⟨_, rfl, rfl, rfl⟩, .inl ⟨_, _, _, commute_spec S5 a b, fun S6 c1 hS6 hc1 => ⟨⟨_, rfl, rfl, rfl⟩, .inl ⟨_, _, _, commute_spec S6 b a, fun S7 c2 hS7 hc2 => ?_⟩⟩⟩⟩
      have hcc : c2 = c1 := (show c2 = commute b a from hc2).trans ((commute_symm b a).trans (show c1 = commute a b from hc1).symm)
      clear hc1 hc2
      subst hcc
      refine ⟨fun e => absurd e (by simp), fun _ => ⟨⟨_, rfl, rfl, rfl⟩, .inl ⟨_, _, _, commute_spec S7 a b, fun S8 c3 hS8 hc3 => ?_⟩⟩⟩
      have hc3' : c3 = commute a b := hc3
      clear hc3
      refine ⟨fun e => ?_, fun e => ?_⟩
      · have e' : commute a b = true := hc3'.symm.trans e
        refine ⟨⟨_, rfl, rfl, rfl⟩, .inl ⟨_, _, _, same_spec S8 x y es fs (((((hx1.le h4).le hS5).le hS6).le hS7).le hS8) hx2 (((hy1.le hS6).le hS7).le hS8) hy2, fun S9 t hS9 ht => ?_⟩⟩
        have ht' : t = true := by
          have : t = true ↔ ∀ k, get es k = get fs k := ht
          rw [this]
          intro k
          rw [hx3, hy3]
          exact congrFun (app_swap (fin_put (fin_put fin_nil hv) hv) ha hb e') k
        clear ht
        subst ht'
        exact onT ⟨⟨_, rfl, rfl, rfl⟩, .inl ⟨_, _, _, awake_spec _, fun S' x hS hx => ⟨rfl, x, rfl, hx⟩⟩⟩
      · have e' : commute a b = false := hc3'.symm.trans e
        obtain ⟨hk, hla, hlb, w0, ⟨n0, hn0, k0, hk0, hw0⟩, hne0⟩ := differ ha hb e'
        refine ⟨_, rfl, _, rfl, _, rfl, _, rfl, ?_⟩
        refine ⟨[], [], Nat, [11, 13, 14, 68, 69, 70, 71, 72, 73, 74, 75, 76, 77, 78, 79, 80, 81, 82, 83, 84, 85, 86, 87, 88, 89, 90, 91, 92, 93, 94, 95, 96, 97, 98, 99, 100, 101, 102, 103, 104, 105, 106, 107, 108], fun i => [(67, .c (.v (.int .i64 i)))], fun _ => [.box [.v (.int .i64 a.1), .v (.int .i64 a.2.1), .v (.int .i64 a.2.2)], .box [.v (.int .i64 b.1), .v (.int .i64 b.2.1), .v (.int .i64 b.2.2)], .gone, .gone, .gone, .row (.int .i64) 2 (ns a.2.2 b.2.2)], fun _ => S8,
          fun i => i ≤ 9 ∧ ∀ i' n, i' < i → (ns a.2.2 b.2.2)[i']? = some n → ∀ k ∈ ksOf a.2.2 b.2.2, Eqv a b n k, fun i => 9 - i, ?_⟩
        refine And.intro (Exists.intro 0 (And.intro (And.intro (And.intro ?_ rfl) (And.intro rfl (Store.le_refl _))) ⟨Nat.zero_le _, fun i' n h => absurd h (Nat.not_lt_zero _)⟩)) ?_
        · repeat' first | exact trivial | exact rfl | refine And.intro ?_ ?_
        rintro i ⟨hi, hinv⟩
        refine And.intro (fun h => ?_) (fun h => ?_)
        · have hi9 : i < (ns a.2.2 b.2.2).length := by
            have h' : decide ((i : Int) < ((9 : Nat) : Int)) = true := h
            have := of_decide_eq_true h'
            show i < 9
            omega
          have hat : (ns a.2.2 b.2.2)[((i : Nat) : Int).toNat]? = some (ns a.2.2 b.2.2)[i] := by rw [Int.toNat_natCast]; exact List.getElem?_eq_getElem hi9
          have hat' : (ns a.2.2 b.2.2)[i]? = some (ns a.2.2 b.2.2)[i] := List.getElem?_eq_getElem hi9
          generalize (ns a.2.2 b.2.2)[i] = n at hat hat'
          have i0 : (0 : Int) ≤ ((i : Nat) : Int) := Int.natCast_nonneg _
          have i1 : ((i : Nat) : Int) < ((9 : Nat) : Int) := by
            have h9 : (ns a.2.2 b.2.2).length = 9 := rfl
            omega
          refine ⟨i0, i1, n, hat, _, rfl, _, rfl, ?_⟩
          refine ⟨[], [], Nat, [13, 14, 84, 85, 86, 87, 88, 89, 90, 91, 92, 93, 94, 95, 96, 97, 98, 99, 100, 101, 102, 103, 104, 105, 106, 107], fun j => [(83, .c (.v (.int .i64 j)))], fun _ => [.box [.v (.int .i64 a.1), .v (.int .i64 a.2.1), .v (.int .i64 a.2.2)], .box [.v (.int .i64 b.1), .v (.int .i64 b.2.1), .v (.int .i64 b.2.2)], .gone, .gone, .gone, .row (.int .i64) 2 (ns a.2.2 b.2.2), .row (.int .i64) 2 (ksOf a.2.2 b.2.2)], fun _ => S8,
            fun j => j ≤ 5 ∧ ∀ j' k, j' < j → (ksOf a.2.2 b.2.2)[j']? = some k → Eqv a b n k, fun j => 5 - j, ?_⟩
          refine And.intro (Exists.intro 0 (And.intro (And.intro (And.intro ?_ rfl) (And.intro rfl (Store.le_refl _))) ⟨Nat.zero_le _, fun j' k h => absurd h (Nat.not_lt_zero _)⟩)) ?_
          · repeat' first | exact trivial | exact rfl | refine And.intro ?_ ?_
          rintro j ⟨hj, hinvj⟩
          refine And.intro (fun hh => ?_) (fun hh => ?_)
          · have hj5 : j < (ksOf a.2.2 b.2.2).length := by
              have h' : decide ((j : Int) < ((5 : Nat) : Int)) = true := hh
              have := of_decide_eq_true h'
              show j < 5
              omega
            have hjt : (ksOf a.2.2 b.2.2)[((j : Nat) : Int).toNat]? = some (ksOf a.2.2 b.2.2)[j] := by rw [Int.toNat_natCast]; exact List.getElem?_eq_getElem hj5
            have hjt' : (ksOf a.2.2 b.2.2)[j]? = some (ksOf a.2.2 b.2.2)[j] := List.getElem?_eq_getElem hj5
            generalize (ksOf a.2.2 b.2.2)[j] = k at hjt hjt'
            have j0 : (0 : Int) ≤ ((j : Nat) : Int) := Int.natCast_nonneg _
            have j1 : ((j : Nat) : Int) < ((5 : Nat) : Int) := by
              have h5 : (ksOf a.2.2 b.2.2).length = 5 := rfl
              omega
            refine ⟨j0, j1, k, hjt, IntKind.i64.wrap (n - k), rfl, a.2.1, IntKind.i64.wrap (n - k), rfl, rfl, trivial, ?_⟩
            refine ⟨orCom2, [7, 8, 9], [], by kernel_rfl, ⟨?_, ?_, trivial⟩, ?_, trivial⟩
            all_goals
              refine ⟨⟨_, rfl, rfl, rfl⟩, .inl fun b3 T1 g1 hm3 p3 d3 T2 g2 hr3 => ⟨_, _, _, apply_spec T2 (some b3) _ (hm3.le g2) (once_mset rfl once_nil _ _) (p3, 2, d3) [a, b] rfl hr3 (by simp), fun T3 x3 hT3 ⟨es3, hz1, hz2, hz3⟩ => ?_⟩⟩
              refine ⟨⟨_, rfl, rfl, rfl⟩, .inl fun p4 d4 T4 g4 hr5 => ⟨_, _, _, apply_spec T4 (some b3) _ (((hm3.le g2).le hT3).le g4) (once_mset rfl once_nil _ _) (p4, 2, d4) [b, a] rfl hr5 (by simp), fun T5 y3 hT5 ⟨fs3, hw1, hw2, hw3⟩ => ?_⟩⟩
              refine ⟨⟨_, rfl, rfl, rfl⟩, .inl ⟨_, _, _, same_spec T5 x3 y3 es3 fs3 ((hz1.le g4).le hT5) hz2 hw1 hw2, fun T6 t hT6 ht => ?_⟩⟩
              refine ⟨fun _ => ⟨⟨_, rfl, rfl, rfl⟩, .inl ⟨_, _, _, awake_spec _, fun S' x hS hx => ⟨rfl, x, rfl, hx⟩⟩⟩, fun e2 => ?_⟩
              have htt : t = true := by have : (!t) = false := e2; simpa using this
              have hall : ∀ k, get es3 k = get fs3 k := by have : t = true ↔ ∀ k, get es3 k = get fs3 k := ht; exact this.1 htt
              have hE : Eqv a b n k := eqv_of hk hla hlb (fun q => by have := hall q; rw [hz3, hw3] at this; exact this)
              refine ⟨((j + 1 : Nat) : Int), wrap_i64 (by omega) (by omega), j + 1, ⟨⟨?_, rfl⟩, rfl, Store.le_trans g1 (Store.le_trans g2 (Store.le_trans hT3 (Store.le_trans g4 (Store.le_trans hT5 hT6))))⟩, ⟨hj5, ?_⟩, ?_⟩
              · repeat' first | exact trivial | exact rfl | refine And.intro ?_ ?_
              · intro j' k' hlt hk'
                rcases Nat.lt_or_eq_of_le (Nat.le_of_lt_succ hlt) with h | rfl
                · exact hinvj j' k' h hk'
                · rw [hjt'] at hk'
                  simp only [Option.some.injEq] at hk'
                  rw [← hk']; exact hE
              · have hj5' : j < 5 := hj5
                show 5 - (j + 1) < 5 - j
                omega
          · have hj5 : j = 5 := by
              have h' : decide ((j : Int) < ((5 : Nat) : Int)) = false := hh
              have := of_decide_eq_false h'
              omega
            subst hj5
            refine ⟨((i + 1 : Nat) : Int), wrap_i64 (by omega) (by omega), i + 1, ⟨⟨?_, rfl⟩, rfl, Store.le_refl _⟩, ⟨hi9, ?_⟩, ?_⟩
            · repeat' first | exact trivial | exact rfl | refine And.intro ?_ ?_
            · intro i' n' hlt hn' k' hk'
              rcases Nat.lt_or_eq_of_le (Nat.le_of_lt_succ hlt) with h | rfl
              · exact hinv i' n' h hn' k' hk'
              · rw [hat'] at hn'
                simp only [Option.some.injEq] at hn'
                rw [← hn']
                obtain ⟨j', hj'⟩ := List.getElem?_of_mem hk'
                have hlt5 : j' < 5 := (List.getElem?_eq_some_iff.1 hj').1
                exact hinvj j' k' hlt5 hj'
            · have hi9' : i < 9 := hi9
              show 9 - (i + 1) < 9 - i
              omega
        · have hi9 : i = 9 := by
            have h' : decide ((i : Int) < ((9 : Nat) : Int)) = false := h
            have := of_decide_eq_false h'
            omega
          subst hi9
          exfalso
          obtain ⟨i', hi'⟩ := List.getElem?_of_mem hn0
          have hlt : i' < 9 := (List.getElem?_eq_some_iff.1 hi').1
          have := hinv i' n0 hlt hi' k0 hk0
          rw [Eqv, hw0] at this
          exact hne0 this
end Go.Proofs.Ytfchicmekieclaa
