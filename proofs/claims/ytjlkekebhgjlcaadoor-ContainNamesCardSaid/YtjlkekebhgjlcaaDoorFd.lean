/- law29: the host functions by name; Call. -/
import Derived.Test.YtjlkekebhgjlcaaDoorFc
namespace Go.Proofs.YtjlkekebhgjlcaaDoor
open Go Go.Vc
set_option maxRecDepth 100000

@[reducible] def shF : Shape := .st (.pair (.int .i64) .any)
@[reducible] def fv (f : Nat) : Value := .func (.func f) #[] #[]
abbrev Hd := Option Addr × Nat × Nat
@[reducible] def slV (p : Hd) : Value := .slice p.1 p.2.1 p.2.2
@[reducible] def shI : Shape := .int .i64
def bs (l : List UInt8) : ByteArray := ⟨l.toArray⟩
def host : List (ByteArray × (Int × Value)) :=
  [(⟨#[99, 97, 108, 109]⟩, (1, fv 32)), (⟨#[100, 101, 101, 112]⟩, (1, fv 33)), (⟨#[100, 111, 117, 98, 108, 101]⟩, (1, fv 34)), (⟨#[102, 97, 105, 108]⟩, (1, fv 35)),
   (⟨#[109, 111, 115, 116]⟩, (2, fv 36)), (⟨#[112, 97, 114, 116]⟩, (2, fv 37)), (⟨#[115, 113, 117, 97, 114, 101]⟩, (1, fv 38)), (⟨#[115, 117, 109]⟩, (2, fv 39))]
theorem functions_spec (S : Store) : Pure Tryd.prog 25 S [] (A := Nat) (fun b => .c (.v (.map (some b)))) (fun S' b => MapRd S' (some b) .str shF host) := by
  refine pure_vc agrees Tryd.func25 rfl rfl (fun S S' q hle h => h.le hle) ?_
  refine ⟨⟨#[99, 97, 108, 109]⟩, (1, fv 32), rfl, rfl, ⟨trivial, rfl⟩, ⟨#[100, 101, 101, 112]⟩, (1, fv 33), rfl, rfl, ⟨trivial, rfl⟩, ⟨#[100, 111, 117, 98, 108, 101]⟩, (1, fv 34), rfl, rfl, ⟨trivial, rfl⟩, ⟨#[102, 97, 105, 108]⟩, (1, fv 35), rfl, rfl, ⟨trivial, rfl⟩, ?_⟩
  refine ⟨⟨#[109, 111, 115, 116]⟩, (2, fv 36), rfl, rfl, ⟨trivial, rfl⟩, ⟨#[112, 97, 114, 116]⟩, (2, fv 37), rfl, rfl, ⟨trivial, rfl⟩, ⟨#[115, 113, 117, 97, 114, 101]⟩, (1, fv 38), rfl, rfl, ⟨trivial, rfl⟩, ⟨#[115, 117, 109]⟩, (2, fv 39), rfl, rfl, ⟨trivial, rfl⟩, ?_⟩
  exact fun b S' hS hm => ⟨rfl, b, rfl, hm⟩

theorem args_spec (S : Store) (name : ByteArray) : Pure Tryd.prog 20 S [.string name] (A := Int × Bool) (fun x => .tup [(false, [.v (.int .i64 x.1)]), (false, [.v (.bool x.2)])])
    (fun _ x => x = (((mget .str host name).getD ((0 : Int), .nilFunc)).1, (mget .str host name).isSome)) := by
  refine pure_vc agrees Tryd.func20 rfl rfl (fun S S' q hle h => h) ?_
  refine ⟨⟨_, rfl, rfl, rfl⟩, .inl ⟨_, _, _, functions_spec S, fun S1 b hS1 hb => ?_⟩⟩
  refine ⟨host, hb, name, ((0 : Int), .nilFunc), rfl, rfl, ?_⟩
  exact ⟨rfl, _, rfl, rfl⟩

end Go.Proofs.YtjlkekebhgjlcaaDoor
