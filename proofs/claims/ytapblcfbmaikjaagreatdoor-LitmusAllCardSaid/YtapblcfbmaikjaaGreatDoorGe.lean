/- law09: the named tests: put, get, swap, table, Names, Named. -/
import Derived.Test.YtapblcfbmaikjaaGreatDoorGb
namespace Go.Proofs.YtapblcfbmaikjaaGreatDoor
open Go Go.Vc Go.Sort Go.RowKit Go.Maps
set_option maxRecDepth 100000
set_option maxHeartbeats 8000000

theorem put_spec (S : Store) (op a v : Int) : Pure Tryz.prog 52 S [.int .i64 op, .int .i64 a, .int .i64 v] (A := Unit) (fun _ => .agg (cAct (Li.put op a v))) (fun _ _ => True) := by
  refine pure_vc agrees Tryz.func52 rfl rfl (fun S S' q hle h => h) ?_
  exact ⟨rfl, (), rfl, trivial⟩
theorem get_spec (S : Store) (op a : Int) : Pure Tryz.prog 53 S [.int .i64 op, .int .i64 a] (A := Unit) (fun _ => .agg (cAct (Li.get op a))) (fun _ _ => True) := by
  refine pure_vc agrees Tryz.func53 rfl rfl (fun S S' q hle h => h) ?_
  exact ⟨rfl, (), rfl, trivial⟩
theorem swp_spec (S : Store) (a old v : Int) : Pure Tryz.prog 56 S [.int .i64 a, .int .i64 old, .int .i64 v] (A := Unit) (fun _ => .agg (cAct (Li.swp a old v))) (fun _ _ => True) := by
  refine pure_vc agrees Tryz.func56 rfl rfl (fun S S' q hle h => h) ?_
  exact ⟨rfl, (), rfl, trivial⟩
theorem i64n (n : Nat) (h : n ≤ 9223372036854775807) : inI64 (n : Int) := ⟨by omega, by omega⟩
theorem okV {v : Int} (h : inI64 v) : okW (v, 0, 0) := ⟨h, okW_0.2.1, okW_0.2.2⟩
theorem i_6 : inI64 6 := ⟨by decide, by decide⟩
theorem okP {op a v : Int} (h1 : inI64 op) (h2 : inI64 a) (h3 : inI64 v) : okAct (Li.put op a v) := ⟨h1, h2, okW_0, okV h3⟩
theorem okG {op a : Int} (h1 : inI64 op) (h2 : inI64 a) : okAct (Li.get op a) := ⟨h1, h2, okW_0, okW_0⟩
theorem okX {a o v : Int} (h2 : inI64 a) (h3 : inI64 o) (h4 : inI64 v) : okAct (Li.swp a o v) := ⟨i_6, h2, okV h3, okV h4⟩
theorem i_0 : inI64 0 := ⟨by decide, by decide⟩
theorem i_1 : inI64 1 := ⟨by decide, by decide⟩
theorem i_2 : inI64 2 := ⟨by decide, by decide⟩
theorem i_3 : inI64 3 := ⟨by decide, by decide⟩
theorem i_4 : inI64 4 := ⟨by decide, by decide⟩
theorem i_5 : inI64 5 := ⟨by decide, by decide⟩
theorem mcons {α : Type} {P : α → Prop} {x : α} {l : List α} (h : P x) (hl : ∀ y ∈ l, P y) : ∀ y ∈ x :: l, P y := List.forall_mem_cons.2 ⟨h, hl⟩
theorem mnil {α : Type} {P : α → Prop} : ∀ y ∈ ([] : List α), P y := fun y hy => by cases hy

theorem far_spec (S : Store) (rd : Int) (hrd : inI64 rd) : Pure Tryz.prog 51 S [.int .i64 rd] (A := Hd) rSl (fun S' q => ThIs S' q (Li.far rd)) := by
  refine pure_vc agrees Tryz.func51 rfl rfl (fun S S' q hle h => h.le hle) ?_
  refine ⟨⟨_, rfl, rfl, rfl⟩, .inl ⟨_, _, _, put_spec S 4 0 1, fun S1 _ h1 _ => ?_⟩⟩
  refine ⟨⟨_, rfl, rfl, rfl⟩, .inl ⟨_, _, _, put_spec S1 4 1 1, fun S2 _ h2 _ => ?_⟩⟩
  refine ⟨⟨_, rfl, rfl, rfl⟩, .inl ⟨_, _, _, get_spec S2 rd 0, fun S3 _ h3 _ => ?_⟩⟩
  refine ⟨⟨_, rfl, rfl, rfl⟩, .inl ⟨_, _, _, get_spec S3 rd 1, fun S4 _ h4 _ => ?_⟩⟩
  refine ⟨⟨_, rfl, rfl, rfl⟩, .inl ⟨_, _, _, get_spec S4 rd 1, fun S5 _ h5 _ => ?_⟩⟩
  refine ⟨⟨_, rfl, rfl, rfl⟩, .inl ⟨_, _, _, get_spec S5 rd 0, fun S6 _ h6 _ => ?_⟩⟩
  intro p1 c1 S7 h7 hr1 hpf1 p2 c2 S8 h8 hr2 hpf2 p3 c3 S9 h9 hr3 hpf3 p4 c4 S10 h10 hr4 hpf4
  intro p5 c5 S11 h11 hr5 hpf5
  exact ⟨rfl, (p5, 4, c5), rfl, ⟨[(((p1, 1, c1) : Hd), [(Li.put 4 0 1)]), (((p2, 1, c2) : Hd), [(Li.put 4 1 1)]), (((p3, 2, c3) : Hd), [(Li.get rd 0), (Li.get rd 1)]), (((p4, 2, c4) : Hd), [(Li.get rd 1), (Li.get rd 0)])], rfl, rfl, pform_le hpf5.1, hr5.le (Store.le_refl _), (mcons (acts_of (l := [(Li.put 4 0 1)]) rfl (pform_le hpf1.1) (hr1.le (Store.le_trans (Store.le_trans (Store.le_trans h8 h9) h10) h11)) (mcons (okP i_4 i_0 i_1) mnil)) (mcons (acts_of (l := [(Li.put 4 1 1)]) rfl (pform_le hpf2.1) (hr2.le (Store.le_trans (Store.le_trans h9 h10) h11)) (mcons (okP i_4 i_1 i_1) mnil)) (mcons (acts_of (l := [(Li.get rd 0), (Li.get rd 1)]) rfl (pform_le hpf3.1) (hr3.le (Store.le_trans h10 h11)) (mcons (okG hrd i_0) (mcons (okG hrd i_1) mnil))) (mcons (acts_of (l := [(Li.get rd 1), (Li.get rd 0)]) rfl (pform_le hpf4.1) (hr4.le h11) (mcons (okG hrd i_1) (mcons (okG hrd i_0) mnil))) mnil))))⟩⟩

theorem buf_spec (S : Store) (rd : Int) (hrd : inI64 rd) : Pure Tryz.prog 54 S [.int .i64 rd] (A := Hd) rSl (fun S' q => ThIs S' q (Li.buffered rd)) := by
  refine pure_vc agrees Tryz.func54 rfl rfl (fun S S' q hle h => h.le hle) ?_
  refine ⟨⟨_, rfl, rfl, rfl⟩, .inl ⟨_, _, _, put_spec S 3 0 1, fun S1 _ h1 _ => ?_⟩⟩
  refine ⟨⟨_, rfl, rfl, rfl⟩, .inl ⟨_, _, _, get_spec S1 rd 1, fun S2 _ h2 _ => ?_⟩⟩
  refine ⟨⟨_, rfl, rfl, rfl⟩, .inl ⟨_, _, _, put_spec S2 3 1 1, fun S3 _ h3 _ => ?_⟩⟩
  refine ⟨⟨_, rfl, rfl, rfl⟩, .inl ⟨_, _, _, get_spec S3 rd 0, fun S4 _ h4 _ => ?_⟩⟩
  intro p1 c1 S5 h5 hr1 hpf1 p2 c2 S6 h6 hr2 hpf2
  intro p3 c3 S7 h7 hr3 hpf3
  exact ⟨rfl, (p3, 2, c3), rfl, ⟨[(((p1, 2, c1) : Hd), [(Li.put 3 0 1), (Li.get rd 1)]), (((p2, 2, c2) : Hd), [(Li.put 3 1 1), (Li.get rd 0)])], rfl, rfl, pform_le hpf3.1, hr3.le (Store.le_refl _), (mcons (acts_of (l := [(Li.put 3 0 1), (Li.get rd 1)]) rfl (pform_le hpf1.1) (hr1.le (Store.le_trans h6 h7)) (mcons (okP i_3 i_0 i_1) (mcons (okG hrd i_1) mnil))) (mcons (acts_of (l := [(Li.put 3 1 1), (Li.get rd 0)]) rfl (pform_le hpf2.1) (hr2.le h7) (mcons (okP i_3 i_1 i_1) (mcons (okG hrd i_0) mnil))) mnil))⟩⟩

theorem msg_spec (S : Store) (wr : Int) (hwr : inI64 wr) (rd : Int) (hrd : inI64 rd) : Pure Tryz.prog 55 S [.int .i64 wr, .int .i64 rd] (A := Hd) rSl (fun S' q => ThIs S' q (Li.message wr rd)) := by
  refine pure_vc agrees Tryz.func55 rfl rfl (fun S S' q hle h => h.le hle) ?_
  refine ⟨⟨_, rfl, rfl, rfl⟩, .inl ⟨_, _, _, put_spec S 3 0 1, fun S1 _ h1 _ => ?_⟩⟩
  refine ⟨⟨_, rfl, rfl, rfl⟩, .inl ⟨_, _, _, put_spec S1 wr 1 1, fun S2 _ h2 _ => ?_⟩⟩
  refine ⟨⟨_, rfl, rfl, rfl⟩, .inl ⟨_, _, _, get_spec S2 rd 1, fun S3 _ h3 _ => ?_⟩⟩
  refine ⟨⟨_, rfl, rfl, rfl⟩, .inl ⟨_, _, _, get_spec S3 1 0, fun S4 _ h4 _ => ?_⟩⟩
  intro p1 c1 S5 h5 hr1 hpf1 p2 c2 S6 h6 hr2 hpf2
  intro p3 c3 S7 h7 hr3 hpf3
  exact ⟨rfl, (p3, 2, c3), rfl, ⟨[(((p1, 2, c1) : Hd), [(Li.put 3 0 1), (Li.put wr 1 1)]), (((p2, 2, c2) : Hd), [(Li.get rd 1), (Li.get 1 0)])], rfl, rfl, pform_le hpf3.1, hr3.le (Store.le_refl _), (mcons (acts_of (l := [(Li.put 3 0 1), (Li.put wr 1 1)]) rfl (pform_le hpf1.1) (hr1.le (Store.le_trans h6 h7)) (mcons (okP i_3 i_0 i_1) (mcons (okP hwr i_1 i_1) mnil))) (mcons (acts_of (l := [(Li.get rd 1), (Li.get 1 0)]) rfl (pform_le hpf2.1) (hr2.le h7) (mcons (okG hrd i_1) (mcons (okG i_1 i_0) mnil))) mnil))⟩⟩

def nm0 : Li.Bs := [115, 116, 111, 114, 101, 45, 98, 117, 102, 102, 101, 114, 105, 110, 103]

def nm1 : Li.Bs := [115, 116, 111, 114, 101, 45, 108, 111, 111, 107, 105, 110, 103]

def nm2 : Li.Bs := [109, 101, 115, 115, 97, 103, 101, 45, 112, 108, 97, 105, 110]

def nm3 : Li.Bs := [109, 101, 115, 115, 97, 103, 101, 45, 112, 97, 115, 115, 101, 100]

def nm4 : Li.Bs := [108, 111, 97, 100, 45, 98, 117, 102, 102, 101, 114, 105, 110, 103]

def nm5 : Li.Bs := [99, 111, 104, 101, 114, 101, 110, 99, 101]

def nm6 : Li.Bs := [102, 97, 114, 45, 114, 101, 97, 100, 101, 114, 115]

def nm7 : Li.Bs := [102, 97, 114, 45, 108, 111, 111, 107, 101, 114, 115]

def nm8 : Li.Bs := [115, 119, 97, 112, 115]

def nm9 : Li.Bs := [114, 101, 108, 101, 97, 115, 101, 45, 115, 101, 113, 117, 101, 110, 99, 101]

def tableL : List (Li.Bs × List (List Li.Act)) := [(nm0, Li.buffered 1), (nm1, Li.buffered 5), (nm2, Li.message 3 1), (nm3, Li.message 4 2), (nm4, Li.tLoadBuf), (nm5, Li.tCoh), (nm6, Li.far 2), (nm7, Li.far 5), (nm8, Li.tSwaps), (nm9, Li.tRel)]

@[reducible] def shN : Shape := .st (.pair .str .slice)
def NmIs (S : Store) (x : ByteArray × Hd) (t : Li.Bs × List (List Li.Act)) : Prop := x.1 = bs t.1 ∧ ThIs S x.2 t.2
theorem NmIs.le {S S' : Store} (h : S.le S') {x t} (hx : NmIs S x t) : NmIs S' x t := ⟨hx.1, hx.2.le h⟩
def TbIs (S : Store) (q : Hd) : Prop := RowOf S shN NmIs q tableL
theorem TbIs.le {S S' : Store} (h : S.le S') {q} (hx : TbIs S q) : TbIs S' q := RowOf.le (fun _ _ => NmIs.le h) h hx

theorem table_spec (S : Store) : Pure Tryz.prog 32 S [] (A := Hd) rSl (fun S' q => TbIs S' q) := by
  refine pure_vc agrees Tryz.func32 rfl rfl (fun S S' q hle h => h.le hle) ?_
  refine ⟨54, #[], #[], rfl, rfl, (fun v hv => by simp at hv), ⟨_, rfl, rfl, rfl⟩, .inl ⟨_, _, _, buf_spec S 1 i_1, fun S1 q1 h1 hq1 => ?_⟩⟩
  refine ⟨54, #[], #[], rfl, rfl, (fun v hv => by simp at hv), ⟨_, rfl, rfl, rfl⟩, .inl ⟨_, _, _, buf_spec S1 5 i_5, fun S2 q2 h2 hq2 => ?_⟩⟩
  refine ⟨55, #[], #[], rfl, rfl, (fun v hv => by simp at hv), ⟨_, rfl, rfl, rfl⟩, .inl ⟨_, _, _, msg_spec S2 3 i_3 1 i_1, fun S3 q3 h3 hq3 => ?_⟩⟩
  refine ⟨55, #[], #[], rfl, rfl, (fun v hv => by simp at hv), ⟨_, rfl, rfl, rfl⟩, .inl ⟨_, _, _, msg_spec S3 4 i_4 2 i_2, fun S4 q4 h4 hq4 => ?_⟩⟩
  refine ⟨⟨_, rfl, rfl, rfl⟩, .inl ⟨_, _, _, get_spec S4 1 0, fun S5 _ h5 _ => ?_⟩⟩
  refine ⟨⟨_, rfl, rfl, rfl⟩, .inl ⟨_, _, _, put_spec S5 3 1 1, fun S6 _ h6 _ => ?_⟩⟩
  refine ⟨⟨_, rfl, rfl, rfl⟩, .inl ⟨_, _, _, get_spec S6 1 1, fun S7 _ h7 _ => ?_⟩⟩
  refine ⟨⟨_, rfl, rfl, rfl⟩, .inl ⟨_, _, _, put_spec S7 3 0 1, fun S8 _ h8 _ => ?_⟩⟩
  intro p5 c5 S9 h9 hr5 hpf5 p6 c6 S10 h10 hr6 hpf6
  refine ⟨⟨_, rfl, rfl, rfl⟩, .inl ⟨_, _, _, put_spec S10 3 0 1, fun S11 _ h11 _ => ?_⟩⟩
  refine ⟨⟨_, rfl, rfl, rfl⟩, .inl ⟨_, _, _, put_spec S11 3 0 2, fun S12 _ h12 _ => ?_⟩⟩
  refine ⟨⟨_, rfl, rfl, rfl⟩, .inl ⟨_, _, _, get_spec S12 1 0, fun S13 _ h13 _ => ?_⟩⟩
  refine ⟨⟨_, rfl, rfl, rfl⟩, .inl ⟨_, _, _, get_spec S13 1 0, fun S14 _ h14 _ => ?_⟩⟩
  intro p7 c7 S15 h15 hr7 hpf7 p8 c8 S16 h16 hr8 hpf8
  refine ⟨51, #[], #[], rfl, rfl, (fun v hv => by simp at hv), ⟨_, rfl, rfl, rfl⟩, .inl ⟨_, _, _, far_spec S16 2 i_2, fun S17 q9 h17 hq9 => ?_⟩⟩
  refine ⟨51, #[], #[], rfl, rfl, (fun v hv => by simp at hv), ⟨_, rfl, rfl, rfl⟩, .inl ⟨_, _, _, far_spec S17 5 i_5, fun S18 q10 h18 hq10 => ?_⟩⟩
  refine ⟨⟨_, rfl, rfl, rfl⟩, .inl ⟨_, _, _, swp_spec S18 0 0 1, fun S19 _ h19 _ => ?_⟩⟩
  refine ⟨⟨_, rfl, rfl, rfl⟩, .inl ⟨_, _, _, swp_spec S19 0 0 2, fun S20 _ h20 _ => ?_⟩⟩
  intro p11 c11 S21 h21 hr11 hpf11 p12 c12 S22 h22 hr12 hpf12
  refine ⟨⟨_, rfl, rfl, rfl⟩, .inl ⟨_, _, _, put_spec S22 3 0 1, fun S23 _ h23 _ => ?_⟩⟩
  refine ⟨⟨_, rfl, rfl, rfl⟩, .inl ⟨_, _, _, put_spec S23 4 1 1, fun S24 _ h24 _ => ?_⟩⟩
  refine ⟨⟨_, rfl, rfl, rfl⟩, .inl ⟨_, _, _, swp_spec S24 1 1 2, fun S25 _ h25 _ => ?_⟩⟩
  refine ⟨⟨_, rfl, rfl, rfl⟩, .inl ⟨_, _, _, get_spec S25 2 1, fun S26 _ h26 _ => ?_⟩⟩
  refine ⟨⟨_, rfl, rfl, rfl⟩, .inl ⟨_, _, _, get_spec S26 1 0, fun S27 _ h27 _ => ?_⟩⟩
  intro p13 c13 S28 h28 hr13 hpf13 p14 c14 S29 h29 hr14 hpf14 p15 c15 S30 h30 hr15 hpf15
  intro p16 c16 S31 h31 hr16 hpf16 p17 c17 S32 h32 hr17 hpf17 p18 c18 S33 h33 hr18 hpf18 p19 c19 S34 h34 hr19 hpf19
  intro p20 c20 S35 h35 hr20 hpf20
  refine ⟨rfl, (p20, 10, c20), rfl, [(((bs nm0, q1) : ByteArray × Hd), (nm0, Li.buffered 1)), (((bs nm1, q2) : ByteArray × Hd), (nm1, Li.buffered 5)), (((bs nm2, q3) : ByteArray × Hd), (nm2, Li.message 3 1)), (((bs nm3, q4) : ByteArray × Hd), (nm3, Li.message 4 2)), (((bs nm4, (p16, 2, c16)) : ByteArray × Hd), (nm4, Li.tLoadBuf)), (((bs nm5, (p17, 2, c17)) : ByteArray × Hd), (nm5, Li.tCoh)), (((bs nm6, q9) : ByteArray × Hd), (nm6, Li.far 2)), (((bs nm7, q10) : ByteArray × Hd), (nm7, Li.far 5)), (((bs nm8, (p18, 2, c18)) : ByteArray × Hd), (nm8, Li.tSwaps)), (((bs nm9, (p19, 3, c19)) : ByteArray × Hd), (nm9, Li.tRel))], rfl, rfl, pform_le hpf20.1, hr20, ?_⟩
  exact (mcons ⟨rfl, hq1.le (Store.le_trans (Store.le_trans (Store.le_trans (Store.le_trans (Store.le_trans (Store.le_trans (Store.le_trans (Store.le_trans (Store.le_trans (Store.le_trans (Store.le_trans (Store.le_trans (Store.le_trans (Store.le_trans (Store.le_trans (Store.le_trans (Store.le_trans (Store.le_trans (Store.le_trans (Store.le_trans (Store.le_trans (Store.le_trans (Store.le_trans (Store.le_trans (Store.le_trans (Store.le_trans (Store.le_trans (Store.le_trans (Store.le_trans (Store.le_trans (Store.le_trans (Store.le_trans (Store.le_trans h2 h3) h4) h5) h6) h7) h8) h9) h10) h11) h12) h13) h14) h15) h16) h17) h18) h19) h20) h21) h22) h23) h24) h25) h26) h27) h28) h29) h30) h31) h32) h33) h34) h35)⟩ (mcons ⟨rfl, hq2.le (Store.le_trans (Store.le_trans (Store.le_trans (Store.le_trans (Store.le_trans (Store.le_trans (Store.le_trans (Store.le_trans (Store.le_trans (Store.le_trans (Store.le_trans (Store.le_trans (Store.le_trans (Store.le_trans (Store.le_trans (Store.le_trans (Store.le_trans (Store.le_trans (Store.le_trans (Store.le_trans (Store.le_trans (Store.le_trans (Store.le_trans (Store.le_trans (Store.le_trans (Store.le_trans (Store.le_trans (Store.le_trans (Store.le_trans (Store.le_trans (Store.le_trans (Store.le_trans h3 h4) h5) h6) h7) h8) h9) h10) h11) h12) h13) h14) h15) h16) h17) h18) h19) h20) h21) h22) h23) h24) h25) h26) h27) h28) h29) h30) h31) h32) h33) h34) h35)⟩ (mcons ⟨rfl, hq3.le (Store.le_trans (Store.le_trans (Store.le_trans (Store.le_trans (Store.le_trans (Store.le_trans (Store.le_trans (Store.le_trans (Store.le_trans (Store.le_trans (Store.le_trans (Store.le_trans (Store.le_trans (Store.le_trans (Store.le_trans (Store.le_trans (Store.le_trans (Store.le_trans (Store.le_trans (Store.le_trans (Store.le_trans (Store.le_trans (Store.le_trans (Store.le_trans (Store.le_trans (Store.le_trans (Store.le_trans (Store.le_trans (Store.le_trans (Store.le_trans (Store.le_trans h4 h5) h6) h7) h8) h9) h10) h11) h12) h13) h14) h15) h16) h17) h18) h19) h20) h21) h22) h23) h24) h25) h26) h27) h28) h29) h30) h31) h32) h33) h34) h35)⟩ (mcons ⟨rfl, hq4.le (Store.le_trans (Store.le_trans (Store.le_trans (Store.le_trans (Store.le_trans (Store.le_trans (Store.le_trans (Store.le_trans (Store.le_trans (Store.le_trans (Store.le_trans (Store.le_trans (Store.le_trans (Store.le_trans (Store.le_trans (Store.le_trans (Store.le_trans (Store.le_trans (Store.le_trans (Store.le_trans (Store.le_trans (Store.le_trans (Store.le_trans (Store.le_trans (Store.le_trans (Store.le_trans (Store.le_trans (Store.le_trans (Store.le_trans (Store.le_trans h5 h6) h7) h8) h9) h10) h11) h12) h13) h14) h15) h16) h17) h18) h19) h20) h21) h22) h23) h24) h25) h26) h27) h28) h29) h30) h31) h32) h33) h34) h35)⟩ (mcons ⟨rfl, ⟨[(((p5, 2, c5) : Hd), [(Li.get 1 0), (Li.put 3 1 1)]), (((p6, 2, c6) : Hd), [(Li.get 1 1), (Li.put 3 0 1)])], rfl, rfl, pform_le hpf16.1, hr16.le (Store.le_trans (Store.le_trans (Store.le_trans h32 h33) h34) h35), (mcons (acts_of (l := [(Li.get 1 0), (Li.put 3 1 1)]) rfl (pform_le hpf5.1) (hr5.le (Store.le_trans (Store.le_trans (Store.le_trans (Store.le_trans (Store.le_trans (Store.le_trans (Store.le_trans (Store.le_trans (Store.le_trans (Store.le_trans (Store.le_trans (Store.le_trans (Store.le_trans (Store.le_trans (Store.le_trans (Store.le_trans (Store.le_trans (Store.le_trans (Store.le_trans (Store.le_trans (Store.le_trans (Store.le_trans (Store.le_trans (Store.le_trans (Store.le_trans h10 h11) h12) h13) h14) h15) h16) h17) h18) h19) h20) h21) h22) h23) h24) h25) h26) h27) h28) h29) h30) h31) h32) h33) h34) h35)) (mcons (okG i_1 i_0) (mcons (okP i_3 i_1 i_1) mnil))) (mcons (acts_of (l := [(Li.get 1 1), (Li.put 3 0 1)]) rfl (pform_le hpf6.1) (hr6.le (Store.le_trans (Store.le_trans (Store.le_trans (Store.le_trans (Store.le_trans (Store.le_trans (Store.le_trans (Store.le_trans (Store.le_trans (Store.le_trans (Store.le_trans (Store.le_trans (Store.le_trans (Store.le_trans (Store.le_trans (Store.le_trans (Store.le_trans (Store.le_trans (Store.le_trans (Store.le_trans (Store.le_trans (Store.le_trans (Store.le_trans (Store.le_trans h11 h12) h13) h14) h15) h16) h17) h18) h19) h20) h21) h22) h23) h24) h25) h26) h27) h28) h29) h30) h31) h32) h33) h34) h35)) (mcons (okG i_1 i_1) (mcons (okP i_3 i_0 i_1) mnil))) mnil))⟩⟩ (mcons ⟨rfl, ⟨[(((p7, 2, c7) : Hd), [(Li.put 3 0 1), (Li.put 3 0 2)]), (((p8, 2, c8) : Hd), [(Li.get 1 0), (Li.get 1 0)])], rfl, rfl, pform_le hpf17.1, hr17.le (Store.le_trans (Store.le_trans h33 h34) h35), (mcons (acts_of (l := [(Li.put 3 0 1), (Li.put 3 0 2)]) rfl (pform_le hpf7.1) (hr7.le (Store.le_trans (Store.le_trans (Store.le_trans (Store.le_trans (Store.le_trans (Store.le_trans (Store.le_trans (Store.le_trans (Store.le_trans (Store.le_trans (Store.le_trans (Store.le_trans (Store.le_trans (Store.le_trans (Store.le_trans (Store.le_trans (Store.le_trans (Store.le_trans (Store.le_trans h16 h17) h18) h19) h20) h21) h22) h23) h24) h25) h26) h27) h28) h29) h30) h31) h32) h33) h34) h35)) (mcons (okP i_3 i_0 i_1) (mcons (okP i_3 i_0 i_2) mnil))) (mcons (acts_of (l := [(Li.get 1 0), (Li.get 1 0)]) rfl (pform_le hpf8.1) (hr8.le (Store.le_trans (Store.le_trans (Store.le_trans (Store.le_trans (Store.le_trans (Store.le_trans (Store.le_trans (Store.le_trans (Store.le_trans (Store.le_trans (Store.le_trans (Store.le_trans (Store.le_trans (Store.le_trans (Store.le_trans (Store.le_trans (Store.le_trans (Store.le_trans h17 h18) h19) h20) h21) h22) h23) h24) h25) h26) h27) h28) h29) h30) h31) h32) h33) h34) h35)) (mcons (okG i_1 i_0) (mcons (okG i_1 i_0) mnil))) mnil))⟩⟩ (mcons ⟨rfl, hq9.le (Store.le_trans (Store.le_trans (Store.le_trans (Store.le_trans (Store.le_trans (Store.le_trans (Store.le_trans (Store.le_trans (Store.le_trans (Store.le_trans (Store.le_trans (Store.le_trans (Store.le_trans (Store.le_trans (Store.le_trans (Store.le_trans (Store.le_trans h18 h19) h20) h21) h22) h23) h24) h25) h26) h27) h28) h29) h30) h31) h32) h33) h34) h35)⟩ (mcons ⟨rfl, hq10.le (Store.le_trans (Store.le_trans (Store.le_trans (Store.le_trans (Store.le_trans (Store.le_trans (Store.le_trans (Store.le_trans (Store.le_trans (Store.le_trans (Store.le_trans (Store.le_trans (Store.le_trans (Store.le_trans (Store.le_trans (Store.le_trans h19 h20) h21) h22) h23) h24) h25) h26) h27) h28) h29) h30) h31) h32) h33) h34) h35)⟩ (mcons ⟨rfl, ⟨[(((p11, 1, c11) : Hd), [(Li.swp 0 0 1)]), (((p12, 1, c12) : Hd), [(Li.swp 0 0 2)])], rfl, rfl, pform_le hpf18.1, hr18.le (Store.le_trans h34 h35), (mcons (acts_of (l := [(Li.swp 0 0 1)]) rfl (pform_le hpf11.1) (hr11.le (Store.le_trans (Store.le_trans (Store.le_trans (Store.le_trans (Store.le_trans (Store.le_trans (Store.le_trans (Store.le_trans (Store.le_trans (Store.le_trans (Store.le_trans (Store.le_trans (Store.le_trans h22 h23) h24) h25) h26) h27) h28) h29) h30) h31) h32) h33) h34) h35)) (mcons (okX i_0 i_0 i_1) mnil)) (mcons (acts_of (l := [(Li.swp 0 0 2)]) rfl (pform_le hpf12.1) (hr12.le (Store.le_trans (Store.le_trans (Store.le_trans (Store.le_trans (Store.le_trans (Store.le_trans (Store.le_trans (Store.le_trans (Store.le_trans (Store.le_trans (Store.le_trans (Store.le_trans h23 h24) h25) h26) h27) h28) h29) h30) h31) h32) h33) h34) h35)) (mcons (okX i_0 i_0 i_2) mnil)) mnil))⟩⟩ (mcons ⟨rfl, ⟨[(((p13, 2, c13) : Hd), [(Li.put 3 0 1), (Li.put 4 1 1)]), (((p14, 1, c14) : Hd), [(Li.swp 1 1 2)]), (((p15, 2, c15) : Hd), [(Li.get 2 1), (Li.get 1 0)])], rfl, rfl, pform_le hpf19.1, hr19.le h35, (mcons (acts_of (l := [(Li.put 3 0 1), (Li.put 4 1 1)]) rfl (pform_le hpf13.1) (hr13.le (Store.le_trans (Store.le_trans (Store.le_trans (Store.le_trans (Store.le_trans (Store.le_trans h29 h30) h31) h32) h33) h34) h35)) (mcons (okP i_3 i_0 i_1) (mcons (okP i_4 i_1 i_1) mnil))) (mcons (acts_of (l := [(Li.swp 1 1 2)]) rfl (pform_le hpf14.1) (hr14.le (Store.le_trans (Store.le_trans (Store.le_trans (Store.le_trans (Store.le_trans h30 h31) h32) h33) h34) h35)) (mcons (okX i_1 i_1 i_2) mnil)) (mcons (acts_of (l := [(Li.get 2 1), (Li.get 1 0)]) rfl (pform_le hpf15.1) (hr15.le (Store.le_trans (Store.le_trans (Store.le_trans (Store.le_trans h31 h32) h33) h34) h35)) (mcons (okG i_2 i_1) (mcons (okG i_1 i_0) mnil))) mnil)))⟩⟩ mnil))))))))))

/-- The test of a name. -/
def findN (s : Li.Bs) : List (Li.Bs × List (List Li.Act)) → Option (List (List Li.Act))
  | [] => none
  | t :: l => if t.1 = s then some t.2 else findN s l
theorem find_hit {s : Li.Bs} : ∀ {l : List (Li.Bs × List (List Li.Act))} {i : Nat} {t}, l[i]? = some t → (∀ x ∈ l.take i, x.1 ≠ s) → t.1 = s → findN s l = some t.2
  | [], _, _, h, _, _ => by simp at h
  | b :: l, 0, t, h, _, e => by
    simp only [List.getElem?_cons_zero, Option.some.injEq] at h
    subst h
    unfold findN; rw [if_pos e]
  | b :: l, i + 1, t, h, ht, e => by
    have h0 := ht b (by simp)
    unfold findN
    rw [if_neg h0]
    exact find_hit (by simpa using h) (fun x hx => ht x (by simp [hx])) e
theorem find_none {s : Li.Bs} : ∀ {l : List (Li.Bs × List (List Li.Act))}, (∀ x ∈ l, x.1 ≠ s) → findN s l = none
  | [], _ => rfl
  | b :: l, h => by
    unfold findN
    rw [if_neg (h b (List.mem_cons_self ..))]
    exact find_none fun x hx => h x (List.mem_cons_of_mem _ hx)
theorem names_spec (S : Store) : Pure Tryz.prog 16 S [] (A := Hd) rSl (fun S' q => SsIs S' q (tableL.map (·.1))) := by
  refine pure_vc agrees Tryz.func16 rfl rfl (fun S S' q hle h => h.le hle) ?_
  refine ⟨⟨_, rfl, rfl, rfl⟩, .inl ⟨_, _, _, table_spec S, fun S1 q hS1 hq => ?_⟩⟩
  have hql := hq.len
  obtain ⟨qp, qn, qc⟩ := q
  have hql : qn = tableL.length := hql
  obtain ⟨tb, htb⟩ : ∃ tb, tb = tableL := ⟨_, rfl⟩
  have hl10 : tb.length = 10 := by rw [htb]; rfl
  unfold TbIs at hq
  rw [← htb] at hq hql ⊢
  subst hql
  refine ⟨[], [(1, .str, 9)], Nat, [3] ++ List.range' 7 10, fun i => [(6, rI i)], fun i => [.row .str 9 ((tb.take i).map fun t => bs t.1)], fun _ => S1, fun i => i ≤ tb.length, fun i => tb.length - i, ?_⟩
  refine And.intro (Exists.intro 0 (And.intro (And.intro (And.intro ?_ rfl) (And.intro rfl (Store.le_refl _))) (Nat.zero_le _))) ?_
  · repeat' first | exact trivial | exact rfl | refine And.intro ?_ ?_
  intro i hi
  have hi : i ≤ tb.length := hi
  refine And.intro (fun h1 => ?_) (fun h1 => ?_)
  · have h1 : (i : Int) < ((tb.length : Nat) : Int) := of_decide_eq_true h1
    obtain ⟨⟨xs, xq⟩, t, b, o, ht, ⟨hx1, hx2⟩, hp, hok, hrd⟩ := hq.at (i := i) (by omega)
    have hx1 : xs = bs t.1 := hx1
    subst hx1
    obtain ⟨xp, xn, xc⟩ := xq
    refine ⟨Int.natCast_nonneg _, h1, b, o, hp, ((bs t.1, (xp, xn, xc)) : ByteArray × Hd), hok, hrd, ?_⟩
    refine ⟨[bs t.1], ⟨rfl, rfl⟩, fun _ _ => trivial, by rw [List.length_map, List.length_take]; show (min i _ + 1) * 16 ≤ _; omega, ((i + 1 : Nat) : Int), wrap_i64 (by omega) (by omega), i + 1, ⟨⟨?_, rfl⟩, ?_, Store.le_refl _⟩, by show i + 1 ≤ _; omega, by show tb.length - (i + 1) < tb.length - i; omega⟩
    · repeat' first | exact trivial | exact rfl | refine And.intro ?_ ?_
    · show [Res.row .str 9 _] = [Res.row .str 9 ((tb.take (i + 1)).map fun t => bs t.1)]
      rw [List.take_add_one, ht, List.map_append]; rfl
  have h1 : ¬ (i : Int) < ((tb.length : Nat) : Int) := of_decide_eq_false h1
  have hil : i = tb.length := by omega
  subst hil
  intro p5 c5 S5 hS5 hr5 hpf5
  have htk : tb.take tb.length = tb := List.take_length
  refine ⟨rfl, (p5, ((tb.take tb.length).map fun t => bs t.1).length, c5), rfl, ?_, ?_, ?_⟩
  · show ((tb.take tb.length).map fun t => bs t.1).length = _
    rw [htk, List.length_map, List.length_map]
  · have := pform_le hpf5.1
    rw [List.length_map, htk] at this
    rw [List.length_map]; exact this
  · rw [htk] at hr5
    show RowRd S5 p5 .str ((tb.map (·.1)).map bs)
    rw [List.map_map]; exact hr5
@[reducible] def rTB (x : Tz) (b : Bool) : SV := .tup [(true, cT x), (false, [.v (.bool b)])]
def namedT (s : Li.Bs) : List Li.Wd × List (List Li.Act) := match findN s tableL with
  | some T => (Li.two, T)
  | none => ([], [])
theorem ws_nil (S : Store) : WsIs S (none, 0, 0) [] := RowOf.nil S shW WdIs
theorem th_nil (S : Store) : ThIs S (none, 0, 0) [] := RowOf.nil S .slice ActsIs
theorem named_spec (S : Store) (s : Li.Bs) : Pure Tryz.prog 18 S [.string (bs s)] (A := Tz) (fun x => rTB x (findN s tableL).isSome) (fun S' x => TestIs S' x (namedT s).1 (namedT s).2) := by
  refine pure_vc agrees Tryz.func18 rfl rfl (fun S S' q hle h => h.le hle) ?_
  refine ⟨⟨_, rfl, rfl, rfl⟩, .inl ⟨_, _, _, table_spec S, fun S1 q hS1 hq => ?_⟩⟩
  have hql := hq.len
  obtain ⟨qp, qn, qc⟩ := q
  have hql : qn = tableL.length := hql
  obtain ⟨tb, htb⟩ : ∃ tb, tb = tableL := ⟨_, rfl⟩
  have hl10 : tb.length = 10 := by rw [htb]; rfl
  unfold TbIs at hq
  unfold namedT
  rw [← htb] at hq hql ⊢
  subst hql
  refine ⟨[], [], Nat, [5] ++ List.range' 9 12, fun i => [(8, rI i)], fun _ => [.box [.v (.slice none 0 0), .v (.slice none 0 0)]], fun _ => S1, fun i => i ≤ tb.length ∧ ∀ x ∈ tb.take i, x.1 ≠ s, fun i => tb.length - i, ?_⟩
  refine And.intro (Exists.intro 0 (And.intro (And.intro (And.intro ?_ rfl) (And.intro rfl (Store.le_refl _))) ⟨Nat.zero_le _, fun x hx => by simp at hx⟩)) ?_
  · repeat' first | exact trivial | exact rfl | refine And.intro ?_ ?_
  rintro i ⟨hi, hne⟩
  have hi : i ≤ tb.length := hi
  refine And.intro (fun h1 => ?_) (fun h1 => ?_)
  · have h1 : (i : Int) < ((tb.length : Nat) : Int) := of_decide_eq_true h1
    obtain ⟨⟨xs, xq⟩, t, b, o, ht, ⟨hx1, hx2⟩, hp, hok, hrd⟩ := hq.at (i := i) (by omega)
    have hx1 : xs = bs t.1 := hx1
    subst hx1
    obtain ⟨xp, xn, xc⟩ := xq
    refine ⟨Int.natCast_nonneg _, h1, b, o, hp, ((bs t.1, (xp, xn, xc)) : ByteArray × Hd), hok, hrd, ?_⟩
    by_cases he : t.1 = s
    · refine onE (by rw [bsq]; exact decide_eq_true he) ?_
      refine ⟨or18_5, [0], oF18_5, by kernel_rfl, ?_⟩
      refine ⟨by decide, by decide, by decide, by decide, ?_⟩
      intro p5 c5 S5 hS5 hr5 hpf5
      have hf := find_hit ht hne he
      refine ⟨rfl, ((p5, 2, c5), (xp, xn, xc)), by rw [hf]; rfl, ?_⟩
      rw [hf]
      exact ⟨ws_of (ws := Li.two) hpf5.1 hr5 (mcons okW_0 (mcons okW_0 mnil)), hx2.le hS5⟩
    · refine offE (by rw [bsq]; exact decide_eq_false he) ?_
      refine ⟨((i + 1 : Nat) : Int), wrap_i64 (by omega) (by omega), i + 1, ⟨⟨?_, rfl⟩, rfl, Store.le_refl _⟩, ⟨by show i + 1 ≤ _; omega, take_more ht hne he⟩, by show tb.length - (i + 1) < tb.length - i; omega⟩
      repeat' first | exact trivial | exact rfl | refine And.intro ?_ ?_
  have h1 : ¬ (i : Int) < ((tb.length : Nat) : Int) := of_decide_eq_false h1
  have hil : i = tb.length := by omega
  subst hil
  rw [List.take_length] at hne
  have hf := find_none hne
  refine ⟨rfl, ((none, 0, 0), (none, 0, 0)), by rw [hf]; rfl, ?_⟩
  rw [hf]
  exact ⟨ws_nil _, th_nil _⟩

end Go.Proofs.YtapblcfbmaikjaaGreatDoor
