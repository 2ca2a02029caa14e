/- Remainders. -/
import Derived.Test.YtpfjolckhlgodaaDoorWe
import Derived.Test.YtpfjolckhlgodaaDoorWd
namespace Go.Proofs.YtpfjolckhlgodaaDoor
open Go Go.RowKit
section rules
variable {C : Ctx} {B : Bas} {nt : Nat} {env : Env} {own : Own} {dfs : List Deferred}
theorem ov_rem {dst : Option Tmp} {T T' : TypeId} {x y : Operand} {ty : TypeId} {pos : String} {af : Array Edge} {g : Option (Nat × Bool)} {a b : Int} (hx : ev env x = some (.v (.int .i64 a))) (hy : ev env y = some (.v (.int .i64 b))) (hb : b ≠ 0) :
    OV C B nt ⟨dst, .binOp .rem T x y T', ty, pos, af, g⟩ (.v (.int .i64 (a.tmod b))) ⟨env, own, dfs⟩ := by
  refine pure_ov ?_
  simp [pureV, hx, hy, binV, sameKind, binInt, eqB_eq, hb]
/-- A field of a struct that is a value. -/
theorem ov_fld {dst : Option Tmp} {T : TypeId} {x : Operand} {f : Nat} {ty : TypeId} {pos : String} {af : Array Edge} {g : Option (Nat × Bool)} {u : Value} (v : Value) (hx : ev env x = some (.v u)) (hr : ∀ w, (Instr.field T u f).run C.P w = .ok v w) :
    OV C B nt ⟨dst, .field T x f, ty, pos, af, g⟩ (.v v) ⟨env, own, dfs⟩ := by
  intro a W hrel
  refine ⟨v, rfl, fun w _ => ?_⟩
  simp only [execOp, hrel.atv hx, Sem.run_bind, hr, Result.andThen_ok, Sem.run_pure]
theorem ov_neg {dst : Option Tmp} {T : TypeId} {x : Operand} {ty : TypeId} {pos : String} {af : Array Edge} {g : Option (Nat × Bool)} {a : Int} (hx : ev env x = some (.v (.int .i64 a))) (h1 : -9223372036854775808 ≤ -a) (h2 : -a ≤ 9223372036854775807) :
    OV C B nt ⟨dst, .unOp .neg T x, ty, pos, af, g⟩ (.v (.int .i64 (-a))) ⟨env, own, dfs⟩ := by
  refine pure_ov ?_
  have := i64w (-a) h1 h2
  simp [pureV, hx, this]
end rules
end Go.Proofs.YtpfjolckhlgodaaDoor
