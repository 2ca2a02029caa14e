/- Calls whose contract asks something of the world. -/
import Derived.Test.YtpfjolckhlgodaaDoorSb
import Derived.Test.YtpfjolckhlgodaaDoorWe
namespace Go.Proofs.YtpfjolckhlgodaaDoor
open Go Go.RowKit
set_option linter.unusedSimpArgs false
set_option linter.unusedVariables false
section rules
variable {C : Ctx} {B : Bas} {nt : Nat} {env : Env} {own : Own} {dfs : List Deferred}
/-- A call with plain arguments of a function that gives v and turns nothing, in the worlds of this call alone. -/
theorem ox_pvg {zs : List Nat} {N : St → Prop} {d : Nat} {ty : TypeId} {pos : String} {af : Array Edge} {g : Option (Nat × Bool)} (f : Nat) {fo : Operand} {first cap : List Value} {xs : List Operand} {vs : List Value} {at_ : Array TypeId} {v : Value} {us : List Value} (hc : ∀ W, ExtG B W → Calls C.P f us.toArray W (PV W v)) (hf : ev env fo = some (.v (.func (.func f) ⟨first⟩ ⟨cap⟩))) (hxs : argsV env own xs = some vs) (hus : appL first (appL vs cap) = us) (hd : Nat.blt d nt = true) (he : Enters C.P f)
    (hN : N ⟨(d, .v v) :: env, own, dfs⟩) : OX C B nt zs ⟨some d, .call ⟨.value fo, ⟨xs⟩, at_⟩, ty, pos, af, g⟩ N ⟨env, own, dfs⟩ := by
  intro a W Z hr hz nxt Q hn
  unfold Oper.wp
  rw [run_call hr hf he rfl _ rfl, Oper.upon_enter, argsV_eval hr hxs]
  have hcall := hc W hr.mem.ext
  rw [← hus, appL_eq, appL_eq] at hcall
  rw [show (⟨first⟩ : Array Value) ++ vs.toArray ++ ⟨cap⟩ = (first ++ (vs ++ cap)).toArray by simp]
  refine hcall.mono ?_
  rintro e W' ⟨rfl, hx⟩
  exact hn _ _ _ hN (hr.put (by simpa using hd) _ _ (OLe.refl _) rfl (hr.mem.ext' hx)) hz (Kept.ext (by simp [kind]) hx)
/-- Two strings, one behind the other. -/
theorem ov_cat {dst : Option Tmp} {T T' : TypeId} {x y : Operand} {ty : TypeId} {pos : String} {af : Array Edge} {g : Option (Nat × Bool)} (u v : List UInt8) (hx : ev env x = some (.v (strV u))) (hy : ev env y = some (.v (strV v))) (hb : u.length + v.length ≤ 9223372036854775807) :
    OV C B nt ⟨dst, .binOp .add T x y T', ty, pos, af, g⟩ (.v (strV (u ++ v))) ⟨env, own, dfs⟩ := by
  intro a W hr
  refine ⟨_, rfl, fun w hw => ?_⟩
  have h1 : a.eval x = strV u := hr.at hx
  have h2 : a.eval y = strV v := hr.at hy
  have hsz : ¬ (((ByteArray.mk u.toArray).size + (ByteArray.mk v.toArray).size : Nat) : Int) > IntKind.i64.max := by
    show ¬ ((u.toArray.size + v.toArray.size : Nat) : Int) > 9223372036854775807
    simp only [List.size_toArray]
    omega
  have happ : (ByteArray.mk u.toArray) ++ (ByteArray.mk v.toArray) = ByteArray.mk (u ++ v).toArray := by
    apply ByteArray.ext
    simp [ByteArray.data_append]
  have hrun : (do eqGuard .add T x y (a.eval x) (a.eval y); binOp .add T (a.eval x) (a.eval y) : Sem Value).run C.P w = .ok (strV (u ++ v)) w := by
    rw [h1, h2, Sem.run_bind]
    simp only [eqGuard, binOp, strV, Op.stringOp]
    rw [if_neg hsz, happ]
    rfl
  unfold execOp
  simp only [Sem.run_bind, Sem.run_pure] at hrun ⊢
  rw [hrun]
  rfl
end rules
end Go.Proofs.YtpfjolckhlgodaaDoor
