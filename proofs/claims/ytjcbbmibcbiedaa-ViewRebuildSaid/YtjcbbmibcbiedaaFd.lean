/- law02: the view: what it is, Locs. -/
import Derived.Test.YtjcbbmibcbiedaaFc
import Derived.Test.YtjcbbmibcbiedaaLm
import Derived.Test.YtjcbbmibcbiedaaSh
namespace Go.Proofs.Ytjcbbmibcbiedaa
open Go Go.Vc Go.Sort Go.RowKit Go.Maps
set_option maxRecDepth 100000

/-- A list of pairs in order, each with a valid location and a positive number. -/
def SP (m : List (Int × Int)) : Prop := m.Pairwise (·.1 < ·.1) ∧ ∀ p ∈ m, 0 ≤ p.1 ∧ p.1 < 4096 ∧ 0 < p.2
/-- The map holds these pairs. -/
def VIs (S : Store) (b : Option Nat) (m : List (Int × Int)) : Prop := (∃ es : List (Int × Int), MapRd S b shI shI es ∧ es.Perm m) ∧ SP m
theorem VIs.le {S S' : Store} {b : Option Nat} {m : List (Int × Int)} (h : S.le S') (hv : VIs S b m) : VIs S' b m := by
  obtain ⟨⟨es, h1, h2⟩, h3⟩ := hv
  exact ⟨⟨es, h1.le h, h2⟩, h3⟩
@[reducible] def vV (b : Option Nat) : Value := .agg #[.map b]

theorem SP.nodup {m : List (Int × Int)} (h : SP m) : (m.map (·.1)).Nodup := by
  refine List.pairwise_map.2 (h.1.imp fun {a b} hab => ?_)
  intro e; omega
theorem keysOf_perm {es m : List (Int × Int)} (h : es.Perm m) (hm : SP m) : keysOf (e := shI) es = m.map (·.1) := by
  unfold keysOf
  rw [mergeSort_of_perm_i (h.map (·.1))]
  refine List.mergeSort_of_pairwise (List.pairwise_map.2 (hm.1.imp fun {a b} hab => ?_))
  simp only [leI, decide_eq_true_eq]; omega

theorem sortsA (m : Nat) : AnyZI.SortsIn Try.prog Try.laySorted_ren Fence.wide m :=
  ⟨fun blk off cap ss W hH hblk hsz => callsIn_wide.2 (AnyM.slices_Sort_int Try.laySort blk off cap ss W hH hblk hsz),
   fun p cap W => callsIn_wide.2 (AnyM.slices_Sort_int_none Try.laySort p cap W)⟩

theorem cell_of {S : Store} {w : World} {b : Nat} {v : Value} (hS : S.le (Store.of w)) (h : S.rd b 0 [v]) : w.cell? ⟨b, 0, none⟩ = some v ∧ b < w.heap.size := by
  have h1 : w.cell? ⟨b, 0, none⟩ = some v := hS.1 b 0 v (h 0 v rfl)
  refine ⟨h1, ?_⟩
  rcases Nat.lt_or_ge b w.heap.size with h2 | h2
  · exact h2
  · simp [World.cell?, Array.getElem?_eq_none h2] at h1

theorem sorted_keys_spec (S : Store) (b : Option Nat) (m : List (Int × Int)) (Bm : Nat) (hB : S.rd Bm 0 [.map b]) (hv : VIs S b m) (hn : m.length ≤ 10000) :
    SpecN Try.prog 26 S [.func (.func 31) #[] #[.pointer (some ⟨Bm, 0, none⟩)]] (A := Unit) (fun _ => .c (.ref 0)) (fun _ => [.row shI 23 (m.map (·.1))]) (fun _ _ => True) := by
  obtain ⟨⟨es, h1, h2⟩, h3⟩ := hv
  rw [← keysOf_perm h2 h3]
  have hlen := h2.length_eq
  refine specN_sorted (mb := b) ?_ ?_ h1
  · rintro b rfl w hS
    obtain ⟨D, hown, hperm, hsize⟩ := owns_of (k := 23) Try.underlying23 h1 hS (fun p hp => by
      obtain ⟨k1, k2, -⟩ := h3.2 p (h2.mem_iff.1 hp)
      exact ⟨Int.le_trans (by decide) k1, Int.le_trans (Int.le_of_lt k2) (by decide)⟩) (by unfold maxLen; omega) ((h2.map (·.1)).nodup_iff.2 h3.nodup)
    obtain ⟨hc, hlt⟩ := cell_of hS hB
    have hseq : SeqGives Fence.wide 2 Try.prog 31 #[.pointer (some ⟨Bm, 0, none⟩)] encZ (fun ss => ss.Perm (intKeys D)) (Maps.size D) w :=
      AnyZI.keys_gives (ρ := Try.layKeys_ren) { Try.layKeys with } Fence.wide _ trivial rfl (by omega) Bm b es.length D w hlt hc hown
    have cS := AnyZI.sorted_in Try.laySorted Fence.wide 5 trivial trivial trivial trivial rfl (by omega) (sortsA _) (enters_of Try.func30 (by kernel_rfl) rfl) 31 #[.pointer (some ⟨Bm, 0, none⟩)] trivial (enters_of Try.func31 (by kernel_rfl) rfl) _ _ (by rw [hsize]; unfold maxLen; omega) (by rw [hsize]; omega) w hseq
    change CallsIn _ _ Try.prog 26 _ _ _ at cS
    refine (callsIn_wide.1 cS).mono ?_
    rintro e w' ⟨v, ss, rfl, hS2, hrow, hnil, hb⟩
    exact ⟨v, ss, rfl, hS2.trans hperm, hrow, hnil, hb⟩
  · rintro rfl w hS
    obtain ⟨hc, hlt⟩ := cell_of hS hB
    have hseq : SeqGives Fence.wide 2 Try.prog 31 #[.pointer (some ⟨Bm, 0, none⟩)] encZ (fun ss : List Int => ss = []) 0 w :=
      AnyZI.keys_gives_nil (ρ := Try.layKeys_ren) { Try.layKeys with } Fence.wide _ trivial rfl Bm w hlt hc
    have cS := AnyZI.sorted_in Try.laySorted Fence.wide 5 trivial trivial trivial trivial rfl (by omega) (sortsA _) (enters_of Try.func30 (by kernel_rfl) rfl) 31 #[.pointer (some ⟨Bm, 0, none⟩)] trivial (enters_of Try.func31 (by kernel_rfl) rfl) _ 0 (Nat.zero_le _) (by omega) w hseq
    change CallsIn _ _ Try.prog 26 _ _ _ at cS
    refine (callsIn_wide.1 cS).mono ?_
    rintro e w' ⟨v, ss, rfl, rfl, hrow, hnil, hb⟩
    exact ⟨by rw [hnil.2 rfl], hb⟩

theorem keys_spec (S : Store) (b : Option Nat) : SpecN Try.prog 27 S [.map b] (A := Unit) (fun _ => .c (.clo 31 [Sum.inl 0])) (fun _ => [.box [.v (.map b)]]) (fun _ _ => True) :=
  specN_keys (T := 26) fun w => callsIn_wide.1 (AnyZI.keys_in Try.layKeys Fence.wide 5 trivial rfl b w)

set_option maxHeartbeats 1000000 in
theorem locs_spec (S : Store) (b : Option Nat) (m : List (Int × Int)) (hv : VIs S b m) (hn : m.length ≤ 10000) :
    Pure Try.prog 23 S [vV b] (A := Hd) (fun q => .c (.v (slV q))) (fun S' q => q.2.1 = m.length ∧ RowRd S' q.1 shI (m.map (·.1))) := by
  refine pure_vc agrees Try.func23 rfl rfl (fun S S' q hle h => ⟨h.1, h.2.le hle⟩) ?_
  refine ⟨⟨_, rfl, rfl, rfl⟩, .inr (.inr (.inr (.inr ⟨_, _, _, _, keys_spec S b, fun S1 _ hS1 _ => ?_⟩)))⟩
  refine ⟨⟨_, rfl, rfl, rfl⟩, .inr (.inr (.inr (.inr fun Bm S2 hS2 hrd => ⟨_, _, _, _, sorted_keys_spec S2 b m Bm hrd (hv.le (Store.le_trans hS1 hS2)) hn, fun S3 _ hS3 _ => ?_⟩)))⟩
  exact fun p' c' S' hle hr' hpf => ⟨rfl, (p', (m.map (·.1)).length, c'), rfl, List.length_map .., hr'⟩

/-! At -/
theorem mget_rAt : ∀ {m : List (Int × Int)} {l : Int}, (mget shI m l).getD 0 = rAt m l
  | [], l => rfl
  | p :: m, l => by
    unfold mget rAt
    by_cases h : p.1 = l
    · rw [if_pos h, if_pos (by rw [h]; exact (key_eq (k := shI) rfl l l).2 rfl)]; rfl
    · rw [if_neg h, if_neg (fun e => h ((key_eq (k := shI) rfl l p.1).1 e).symm)]; exact mget_rAt
theorem once_perm {es m : List (Int × Int)} (h : es.Perm m) (hm : (m.map (·.1)).Nodup) : keysOnce (k := shI) es :=
  (h.map (fun p : Int × Int => p.1)).nodup_iff.2 hm
theorem mget_perm {es m : List (Int × Int)} (h : es.Perm m) (hm : (m.map (·.1)).Nodup) (l : Int) : mget shI es l = mget shI m l := by
  have hes : keysOnce (k := shI) es := once_perm h hm
  cases h1 : mget shI m l with
  | none =>
    rw [mget_none (k := shI) rfl] at h1 ⊢
    intro hc
    exact h1 ((h.map (·.1)).mem_iff.1 hc)
  | some v =>
    rw [mget_some (k := shI) rfl hm] at h1
    rw [mget_some (k := shI) rfl hes]
    exact h.mem_iff.2 h1
theorem vis_at {S : Store} {b : Option Nat} {m : List (Int × Int)} (hv : VIs S b m) : ∃ es : List (Int × Int), MapRd S b shI shI es ∧ keysOnce (k := shI) es ∧ es.Perm m ∧ ∀ l : Int, (mget shI es l).getD 0 = rAt m l := by
  obtain ⟨⟨es, h1, h2⟩, h3⟩ := hv
  exact ⟨es, h1, once_perm h2 h3.nodup, h2, fun l => by rw [mget_perm h2 h3.nodup, mget_rAt]⟩

set_option maxHeartbeats 1000000 in
theorem at_spec (S : Store) (b : Option Nat) (m : List (Int × Int)) (l : Int) (hv : VIs S b m) :
    Pure Try.prog 14 S [vV b, .int .i64 l] rI (fun _ x => x = rAt m l) := by
  refine pure_vc agrees Try.func14 rfl rfl (fun S S' q hle h => h) ?_
  obtain ⟨es, h1, h2, h3, h4⟩ := vis_at hv
  refine ⟨es, h1, l, (0 : Int), rfl, rfl, ?_⟩
  exact ⟨rfl, _, rfl, h4 l⟩
end Go.Proofs.Ytjcbbmibcbiedaa
