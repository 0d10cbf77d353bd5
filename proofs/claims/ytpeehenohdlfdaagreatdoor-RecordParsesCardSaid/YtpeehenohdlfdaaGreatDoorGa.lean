/- law57: the laws Plays, Texts, Parses. -/
import Derived.Test.YtpeehenohdlfdaaGreatDoorFz
import Derived.Test.YtpeehenohdlfdaaGreatDoorFs
namespace Go.Proofs.YtpeehenohdlfdaaGreatDoor
open Go Go.Vc
set_option maxRecDepth 100000
set_option maxHeartbeats 8000000

theorem law_plays (S : Store) (hL : Lt S) (q : Hd) (acs : List Rc.Ev) (hq : AsRaw S q acs) (hn : acs.length ≤ 1000000000000000) : Pure Tryz.prog 3 S [slV q] (A := Unit) (fun _ => rB true) (fun _ _ => True) := by
  refine pure_vc agrees Tryz.func3 rfl rfl (fun S S' q hle h => h) ?_
  refine ⟨⟨_, rfl, rfl, rfl⟩, .inl ⟨_, _, _, great_spec S q acs hq hn, fun S1 _ hS1 _ => ?_⟩⟩
  refine And.intro (fun hg => ?_) (fun hg => ?_)
  · exact ⟨⟨_, rfl, rfl, rfl⟩, .inl ⟨_, _, _, awake_spec S1 (hL.le hS1), fun S2 _ hS2 _ => ⟨rfl, (), rfl, trivial⟩⟩⟩
  refine ⟨⟨_, rfl, rfl, rfl⟩, .inl ⟨_, _, _, made_spec S1 q acs ((hq.is hg).le hS1) hn, fun S2 z hS2 hz => ?_⟩⟩
  obtain ⟨z1, z2, zb⟩ := z
  obtain ⟨hz1, hz2, hz3⟩ := hz
  have hz1 : HIs S2 z1 (madeR acs) := hz1
  have hz2 : LIs S2 z2 (madeR acs) := hz2
  have hz3 : zb = true := hz3
  subst hz3
  have hll := Rc.hist_len hz1.hs
  have hpl := Rc.pend_len (madeR acs)
  refine onE rfl ⟨⟨_, rfl, rfl, rfl⟩, .inl ⟨_, _, _, pending_spec S2 z1 _ hz1, fun S3 q3 hS3 hq3 => ?_⟩⟩
  refine ⟨⟨_, rfl, rfl, rfl⟩, .inl ⟨_, _, _, refPending_spec S3 z2 _ (hz2.le hS3) (by omega), fun S4 q4 hS4 hq4 => ?_⟩⟩
  refine ⟨⟨_, rfl, rfl, rfl⟩, .inl ⟨_, _, _, equalP_spec S4 q3 q4 _ (hq3.le hS4) hq4 (by rw [List.length_map]; omega), fun S5 _ hS5 _ => ?_⟩⟩
  refine onE rfl ⟨⟨_, rfl, rfl, rfl⟩, .inl ⟨_, _, _, awake_spec S5 (hL.le (Store.le_trans hS1 (Store.le_trans hS2 (Store.le_trans hS3 (Store.le_trans hS4 hS5))))), fun S6 _ hS6 _ => ?_⟩⟩
  exact ⟨rfl, (), rfl, trivial⟩
theorem law_texts (S : Store) (hL : Lt S) (q : Hd) (acs : List Rc.Ev) (hq : AsRaw S q acs) (hn : acs.length ≤ 1000000000000000) : Pure Tryz.prog 4 S [slV q] (A := Unit) (fun _ => rB true) (fun _ _ => True) := by
  refine pure_vc agrees Tryz.func4 rfl rfl (fun S S' q hle h => h) ?_
  refine ⟨⟨_, rfl, rfl, rfl⟩, .inl ⟨_, _, _, great_spec S q acs hq hn, fun S1 _ hS1 _ => ?_⟩⟩
  refine And.intro (fun hg => ?_) (fun hg => ?_)
  · exact ⟨⟨_, rfl, rfl, rfl⟩, .inl ⟨_, _, _, awake_spec S1 (hL.le hS1), fun S2 _ hS2 _ => ⟨rfl, (), rfl, trivial⟩⟩⟩
  refine ⟨⟨_, rfl, rfl, rfl⟩, .inl ⟨_, _, _, made_spec S1 q acs ((hq.is hg).le hS1) hn, fun S2 z hS2 hz => ?_⟩⟩
  obtain ⟨z1, z2, zb⟩ := z
  obtain ⟨hz1, hz2, hz3⟩ := hz
  have hz1 : HIs S2 z1 (madeR acs) := hz1
  have hz2 : LIs S2 z2 (madeR acs) := hz2
  have hz3 : zb = true := hz3
  subst hz3
  have hL2 := hL.le (Store.le_trans hS1 hS2)
  refine onE rfl ⟨⟨_, rfl, rfl, rfl⟩, .inl ⟨_, _, _, text_spec S2 hL2 z1 _ hz1, fun S3 _ hS3 _ => ?_⟩⟩
  refine ⟨⟨_, rfl, rfl, rfl⟩, .inl ⟨_, _, _, refText_spec S3 z2 _ (hz2.le hS3) hz1.hs, fun S4 _ hS4 _ => ?_⟩⟩
  refine onE (isE rfl) ⟨⟨_, rfl, rfl, rfl⟩, .inl ⟨_, _, _, awake_spec S4 (hL2.le (Store.le_trans hS3 hS4)), fun S6 _ hS6 _ => ?_⟩⟩
  exact ⟨rfl, (), rfl, trivial⟩
theorem law_parses (S : Store) (hL : Lw S) (s : Sc.Bs) (hs : s.length ≤ 140737488355328) : Pure Tryz.prog 8 S [.string (bs s)] (A := Unit) (fun _ => rB true) (fun _ _ => True) := by
  refine pure_vc agrees Tryz.func8 rfl rfl (fun S S' q hle h => h) ?_
  have hsz := bs_size s
  by_cases h2 : s.length > 2000
  · refine onE (decide_eq_true (by show ((bs s).size : Int) > 2000; omega)) ?_
    exact ⟨⟨_, rfl, rfl, rfl⟩, .inl ⟨_, _, _, awake_spec S hL.lt, fun S2 _ hS2 _ => ⟨rfl, (), rfl, trivial⟩⟩⟩
  refine offE (decide_eq_false (by show ¬ ((bs s).size : Int) > 2000; omega)) ?_
  refine ⟨⟨_, rfl, rfl, rfl⟩, .inl ⟨_, _, _, hparse_spec S hL s (by omega), fun S1 z hS1 hz => ?_⟩⟩
  refine ⟨⟨_, rfl, rfl, rfl⟩, .inl ⟨_, _, _, refParse_spec S1 s (by omega), fun S2 y hS2 hy => ?_⟩⟩
  obtain ⟨zx, zn, ze⟩ := z
  obtain ⟨yq, yn, ye⟩ := y
  have hz1 : HIs S1 zx (Rc.parseR s).1 := hz.1
  have hz2 : (zn, ze) = (Rc.parseR s).2 := hz.2
  have hy1 : LIs S2 yq (Rc.parseR s).1 := hy.1
  have hy2 : (yn, ye) = (Rc.parseR s).2 := hy.2
  have hnn := hz2.trans hy2.symm
  have h1 : zn = yn := congrArg Prod.fst hnn
  have h2 : ze = ye := congrArg Prod.snd hnn
  have h3 : ye = (Rc.parseR s).2.2 := congrArg Prod.snd hy2
  have hll := Rc.hist_len hz1.hs
  refine offE (bne_eq_false_iff_eq.2 h1) (offE (bne_eq_false_iff_eq.2 h2) ?_)
  refine ⟨⟨_, rfl, rfl, rfl⟩, .inl ⟨_, _, _, events_spec S2 zx _ (hz1.le hS2), fun S3 q3 hS3 hq3 => ?_⟩⟩
  refine ⟨⟨_, rfl, rfl, rfl⟩, .inl ⟨_, _, _, same_spec S3 q3 yq _ hq3 (hy1.le hS3) (by omega), fun S4 _ hS4 _ => ?_⟩⟩
  refine offE rfl ?_
  have hL4 := hL.lt.le (Store.le_trans hS1 (Store.le_trans hS2 (Store.le_trans hS3 hS4)))
  by_cases he : ye = 0
  · refine offE (bne_eq_false_iff_eq.2 he) ⟨⟨_, rfl, rfl, rfl⟩, .inl ⟨_, _, _, text_spec S4 hL4 zx _ (hz1.le (Store.le_trans hS2 (Store.le_trans hS3 hS4))), fun S5 _ hS5 _ => ?_⟩⟩
    refine onE (isE (Rc.parseR_ok (h3.symm.trans he)).1) ⟨⟨_, rfl, rfl, rfl⟩, .inl ⟨_, _, _, awake_spec S5 (hL4.le hS5), fun S6 _ hS6 _ => ?_⟩⟩
    exact ⟨rfl, (), rfl, trivial⟩
  · refine onE (bne_iff_ne.2 he) (onT ⟨⟨_, rfl, rfl, rfl⟩, .inl ⟨_, _, _, awake_spec S4 hL4, fun S6 _ hS6 _ => ?_⟩⟩)
    exact ⟨rfl, (), rfl, trivial⟩
end Go.Proofs.YtpeehenohdlfdaaGreatDoor
