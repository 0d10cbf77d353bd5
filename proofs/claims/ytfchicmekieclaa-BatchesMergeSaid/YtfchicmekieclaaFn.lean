/- law54: the laws: Merge. -/
import Derived.Test.YtfchicmekieclaaFl
namespace Go.Proofs.Ytfchicmekieclaa
open Go Go.Vc
set_option maxRecDepth 100000

theorem app_merge {a b : O} (h : (merge a b).2 = true) (f : Int → Option Int) (k : Int) : app f [(merge a b).1] k = app f [a, b] k := by
  obtain ⟨h1, h2, h3⟩ := merge_ok h
  obtain ⟨h4, h5⟩ := merge_key h
  have e := merge_eff h ((f a.2.1).getD 0)
  show app1 f (merge a b).1 k = app1 (app1 f a) b k
  simp only [app1, h1, h2, h4, cond_true, h5, ← h3]
  by_cases hk : k = a.2.1
  · simp [hk, e]
  · simp [hk]

theorem merge_assoc {a b c : O} (h1 : (merge a b).2 = true) (h2 : (merge b c).2 = true) (h3 : (merge (merge a b).1 c).2 = true) (h4 : (merge a (merge b c).1).2 = true) : (merge (merge a b).1 c).1 = (merge a (merge b c).1).1 := by
  obtain ⟨ka, ya, na⟩ := a
  obtain ⟨kb, yb, nb⟩ := b
  obtain ⟨kc, yc, nc⟩ := c
  have e1 := merge_ok h1
  have e2 := merge_ok h2
  obtain ⟨la, lb, hab⟩ := e1
  obtain ⟨-, lc, hbc⟩ := e2
  simp only at la lb lc hab hbc
  subst hab hbc
  rcases live_cases la with rfl | rfl | rfl | rfl <;> rcases live_cases lb with rfl | rfl | rfl | rfl <;> rcases live_cases lc with rfl | rfl | rfl | rfl <;> simp [merge, live] at h1 h2 h3 h4 ⊢
  all_goals simp [eff]
  all_goals first | (rw [wrap_add_wrap, wrap_wrap_add, Int.add_assoc]; done) | ((repeat' split) <;> omega)

def orMerge : Vc.Ord := .op 0 (.op 1 (.op 2 (.op 6 (.op 3 (.op 7 (.op 8 (.op 9 (.op 10 (.alt 4 (.alt 5 (.op 11 (.op 12 (.op 13 (.op 14 (.op 15 .done))))) (.alt 11 (.op 5 (.op 12 (.op 13 (.op 14 (.op 15 .done))))) .stop)) (.alt 11 (.op 4 (.op 5 (.op 12 (.op 13 (.op 14 (.op 15 .done)))))) .stop))))))))))

set_option maxHeartbeats 16000000 in
theorem law_merge (S : Store) (b : Option Nat) (m : M) (hm : MapRd S b (.int .i64) (.int .i64) m) (h1 : once m) (x y z : O) : Pure Try.prog 6 S [.map b, ti45.sh.val (x, y, z)] rB (fun _ r => r = true) := by
  refine pure_vc agrees Try.func6 rfl rfl (fun _ _ _ _ h => h) ?_
  refine ⟨⟨_, rfl, rfl, rfl⟩, .inl ⟨_, _, _, great_spec S b m hm (none, 0, 0), fun S0 r hS0 hr => ?_⟩⟩
  refine And.intro (fun e => ⟨⟨_, rfl, rfl, rfl⟩, .inl ⟨_, _, _, awake_spec _, fun S' x hS hx => ⟨rfl, x, rfl, hx⟩⟩⟩) (fun e => ?_)
  have hm0 := hm.le hS0
  refine ⟨by decide, by decide, by decide, by decide, ⟨_, rfl, rfl, rfl⟩, .inl ⟨_, _, _, merge_spec S0 x y, fun S1 u hS1 hu => ?_⟩⟩
  have hu' : u = merge x y := hu
  clear hu
  have hm1 := hm0.le hS1
  obtain ⟨u, ku⟩ := u
  refine ⟨orMerge, [2, 3], [], by kernel_rfl, ?_⟩
  cases ku
  · refine onF ⟨⟨?_, ?_, trivial⟩, ?_, trivial⟩
    all_goals
      refine onF ⟨by decide, by decide, by decide, by decide, ⟨_, rfl, rfl, rfl⟩, .inl ⟨_, _, _, merge_spec _ y z, fun S2 v hS2 hv => ?_⟩⟩
      refine onF (onF ⟨⟨_, rfl, rfl, rfl⟩, .inl ⟨_, _, _, awake_spec _, fun S' x hS hx => ⟨rfl, x, rfl, hx⟩⟩⟩)
  · refine onT ⟨by decide, by decide, by decide, by decide, ⟨?_, ?_, trivial⟩, ?_, trivial⟩
    all_goals
      refine ⟨⟨_, rfl, rfl, rfl⟩, .inl fun p c S2 h2 hr2 => ⟨_, _, _, apply_spec S2 b m (hm1.le h2) h1 (p, 1, c) [u] rfl hr2 (by simp), fun S3 q hS3 ⟨es, hq1, hq2, hq3⟩ => ?_⟩⟩
      refine ⟨⟨_, rfl, rfl, rfl⟩, .inl fun p' c' S4 h4 hr4 => ⟨_, _, _, apply_spec S4 b m (((hm1.le h2).le hS3).le h4) h1 (p', 2, c') [x, y] rfl hr4 (by simp), fun S5 q' hS5 ⟨fs, hk1, hk2, hk3⟩ => ?_⟩⟩
      refine ⟨⟨_, rfl, rfl, rfl⟩, .inl ⟨_, _, _, same_spec S5 q q' es fs ((hq1.le h4).le hS5) hq2 hk1 hk2, fun S6 t hS6 ht => ?_⟩⟩
      have ht' : t = true := by
        have : t = true ↔ ∀ k, get es k = get fs k := ht
        rw [this]
        intro k
        have h2 : (merge x y).2 = true := by rw [← hu']
        have h3 : (merge x y).1 = u := by rw [← hu']
        rw [hq3, hk3, ← h3, app_merge h2]
      clear ht
      subst ht'
      refine onF ⟨by decide, by decide, by decide, by decide, ⟨_, rfl, rfl, rfl⟩, .inl ⟨_, _, _, merge_spec S6 y z, fun S7 v hS7 hv => ?_⟩⟩
      have hv' : v = merge y z := hv
      clear hv
      obtain ⟨v, kv⟩ := v
      cases kv
      · refine onT (onF ⟨⟨_, rfl, rfl, rfl⟩, .inl ⟨_, _, _, awake_spec _, fun S' x hS hx => ⟨rfl, x, rfl, hx⟩⟩⟩)
      · refine onT (onT ⟨by decide, by decide, ⟨_, rfl, rfl, rfl⟩, .inl ⟨_, _, _, merge_spec S7 u z, fun S8 w hS8 hw => ?_⟩⟩)
        refine ⟨by decide, by decide, ⟨_, rfl, rfl, rfl⟩, .inl ⟨_, _, _, merge_spec S8 x v, fun S9 w' hS9 hw' => ?_⟩⟩
        have hw1 : w = merge u z := hw
        have hw2 : w' = merge x v := hw'
        clear hw hw'
        obtain ⟨w, kw⟩ := w
        obtain ⟨w', kw'⟩ := w'
        cases kw
        · refine onF (onF (onF ⟨⟨_, rfl, rfl, rfl⟩, .inl ⟨_, _, _, awake_spec _, fun S' x hS hx => ⟨rfl, x, rfl, hx⟩⟩⟩))
        cases kw'
        · refine onT (onF (onF ⟨⟨_, rfl, rfl, rfl⟩, .inl ⟨_, _, _, awake_spec _, fun S' x hS hx => ⟨rfl, x, rfl, hx⟩⟩⟩))
        have hww : w = w' := by
          have e1 : (merge x y).1 = u := by rw [← hu']
          have e2 : (merge y z).1 = v := by rw [← hv']
          have := merge_assoc (a := x) (b := y) (c := z) (by rw [← hu']) (by rw [← hv']) (by rw [e1, ← hw1]) (by rw [e2, ← hw2])
          rw [e1, e2, ← hw1, ← hw2] at this
          exact this
        subst hww
        refine onT (onT ⟨fun e => absurd e (by simp), fun _ => ⟨⟨_, rfl, rfl, rfl⟩, .inl ⟨_, _, _, awake_spec _, fun S' x hS hx => ⟨rfl, x, rfl, hx⟩⟩⟩⟩)
end Go.Proofs.Ytfchicmekieclaa
